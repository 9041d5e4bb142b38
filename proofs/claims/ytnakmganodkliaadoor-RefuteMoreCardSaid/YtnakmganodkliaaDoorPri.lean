/- Refutations: a refutation stays one with its nogoods said twice and with fewer letters, and what it leans on. (part 9) -/
import Derived.Test.YtnakmganodkliaaDoorPrh
set_option linter.unusedVariables false
set_option linter.unusedSimpArgs false
set_option maxRecDepth 100000
namespace Go.Proofs.YtnakmganodkliaaDoorAm
open Go
theorem e92b (g:Gr) (W:List (List Int)) (B:List (List (Int×Int))) (q:List Nat) (ws:List (List Int)) (r:List Nat×Bool) (n:Nat) (hBl:B.length≤1000000) (hB:∀l∈B,l.length≤8796093022208∧∀x∈l,0≤x.1∧x.1<n) (mE:List Nat) (stE:Int) (hsE:Smalls mE)
  (h2:stE=2→r=(mE,false)) (h0:stE=0→r=(mE,true)) (h1a:stE=1→narO ⟨g,W,mE⟩=false→r=(narM ⟨g,W,mE⟩,false)) (h1b:stE=1→narO ⟨g,W,mE⟩=true→GetsK Tryd.prog Tryd.f92.results.toList [none,none] (KK r92) 0 (.tup [.own 0 0 r.1.length none,.v (.bool r.2)],[],[.data 22 (.int .u64) (Mi r.1)]) 0 (stOf 105 [2,8,9,11,34,35,36] [slBd B,.ptr 0 0 0,.ptr 1 0 0,.v (.bool false),slBd B,.v (.int .i64 B.length),.v (.int .i64 0)] [.live (.box 73 [.v (.int .i64 g.h),.v (.int .i64 g.w),.sl false false .bool g.B,.sl false false .bool g.R,.sl false false .bool g.L,slW W,.own 2 0 mE.length none]),.live (.box 151 [.own 3 0 (narM ⟨g,W,mE⟩).length none,.own 4 0 (narW ⟨g,W,mE⟩).length none,.v (.bool true)]),.live (.data 22 (.int .u64) (Mi mE)),.live (.data 22 (.int .u64) (Mi (narM ⟨g,W,mE⟩))),.live (.nest kW (narW ⟨g,W,mE⟩) none)])) (z:Nat):∀(i:Int) (m:List Nat) (st:Int) (ch:Bool),0≤i→i+z=B.length→Smalls m→m.length=n→(ch=true∧st=1∨ch=false∧st=0)→passF (B.drop i.toNat) m st=(mE,stE)→GetsK Tryd.prog Tryd.f92.results.toList [none,none] (KK r92) 0 (.tup [.own 0 0 r.1.length none,.v (.bool r.2)],[],[.data 22 (.int .u64) (Mi r.1)]) 0 (stOf 105 [2,8,9,11,34,35,36] [slBd B,.ptr 0 0 0,.ptr 1 0 0,.v (.bool ch),slBd B,.v (.int .i64 B.length),.v (.int .i64 i)] [.live (.box 73 [.v (.int .i64 g.h),.v (.int .i64 g.w),.sl false false .bool g.B,.sl false false .bool g.R,.sl false false .bool g.L,slW W,.own 2 0 q.length none]),.live (.box 151 [.own 3 0 m.length none,.own 4 0 ws.length none,.v (.bool true)]),.live (.data 22 (.int .u64) (Mi q)),.live (.data 22 (.int .u64) (Mi m)),.live (.nest kW ws none)]):=by
 induction z with
 |zero=>
  intro i m st ch i0 hi hm hl hc hp
  rw[List.drop_eq_nil_of_le (by omega)] at hp
  simp only[passF,Prod.mk.injEq] at hp
  obtain⟨rfl,rfl⟩:=hp
  rcases hc with⟨rfl,rfl⟩|⟨rfl,rfl⟩
  ·have c59:=d59 g W m hm
   refine gets_vc spR (fun k=> [[2,8,9,11,34,35,36],[2,8,9,11,14,15,34,35,36,41,42,43]].getD k []) (fun _=> []) 400 (.fork (.hd 1) (.fork (.fork .stop (.hd 0)) .stop)) (V:=fun G R=>let yy0:=(Pr.mk g W (Nt (List.take m.length (List.drop 0 (Mi m)))));let yy1:=(Ty.int .i64);let yy2:=(Value.int .i64 (0:Int));let yy3:=(Ty.int .u64);(decide (i< (↑B.length:Int))=true→(0:Int)≤i∧i< (↑B.length:Int)∧SameK (KK r92 1) (KK r92 1)∧G 1 (stOf 105 [2,8,9,11,14,15,34,35,36,41,42,43] [D.sl false false (yy1.prod yy1).sl B,D.ptr 0 0 0,D.ptr 1 0 0,D.v (Value.bool true),D.v yy2,D.ptr 2 0 0,D.sl false false (yy1.prod yy1).sl B,D.v (Value.int .i64 (↑B.length:Int)),D.v (Value.int .i64 i),D.sl false false (yy1.prod yy1) (B.getD i.toNat (yy1.prod yy1).sl.dflt),D.v (Value.int .i64 (↑(List.length (B.getD i.toNat (yy1.prod yy1).sl.dflt)):Int)),D.v yy2] [Slot.live (Row.box 73 [D.v (Value.int .i64 g.h),D.v (Value.int .i64 g.w),D.sl false false Ty.bool g.B,D.sl false false Ty.bool g.R,D.sl false false Ty.bool g.L,D.sl false false yy1.sl W,D.own 3 0 q.length none]),Slot.live (Row.box 151 [D.own 4 0 m.length none,D.own 5 0 ws.length none,D.v (Value.bool true)]),Slot.live (Row.box 92 [D.v yy2,D.v yy2]),Slot.live (Row.data 22 yy3 (Mi q)),Slot.live (Row.data 22 yy3 (Mi m)),Slot.live (Row.nest (NK.mk 27 yy1.sl 0 3 yy1) ws none)]))∧(decide (i< (↑B.length:Int))=false→(true=true→Con Tryd.prog 123 [] [D.agg [D.v (Value.int .i64 yy0.g.h),D.v (Value.int .i64 yy0.g.w),D.sl false false Ty.bool yy0.g.B,D.sl false false Ty.bool yy0.g.R,D.sl false false Ty.bool yy0.g.L,D.sl false false yy1.sl yy0.W,D.sl false false yy3 (Mi yy0.M)]] (D.tup [D.agg [D.own 0 0 (narM yy0).length none,D.own 1 0 (narW yy0).length none,D.v (Value.bool (narO yy0))],D.v (Value.int .i64 (checkP yy0))]) [] [Row.data 22 yy3 (Mi (narM yy0)),Row.nest (NK.mk 27 yy1.sl 0 3 yy1) (narW yy0) none]∧Value.int .i64 g.h=Value.int .i64 yy0.g.h∧Value.int .i64 g.w=Value.int .i64 yy0.g.w∧g.B=yy0.g.B∧g.R=yy0.g.R∧g.L=yy0.g.L∧W=yy0.W∧List.take m.length (List.drop 0 (Mi m))=Mi yy0.M∧((!narO yy0)=true→R (D.tup [D.own 0 0 (narM yy0).length none,D.v (Value.bool false)],[],[Row.data 22 yy3 (Mi (narM yy0))]))∧((!narO yy0)=false→SameK (KK r92 0) (KK r92 0)∧G 0 (stOf 105 [2,8,9,11,34,35,36] [D.sl false false (yy1.prod yy1).sl B,D.ptr 0 0 0,D.ptr 1 0 0,D.v (Value.bool false),D.sl false false (yy1.prod yy1).sl B,D.v (Value.int .i64 (↑B.length:Int)),D.v yy2] [Slot.live (Row.box 73 [D.v (Value.int .i64 g.h),D.v (Value.int .i64 g.w),D.sl false false Ty.bool g.B,D.sl false false Ty.bool g.R,D.sl false false Ty.bool g.L,D.sl false false yy1.sl W,D.own 2 0 m.length none]),Slot.live (Row.box 151 [D.own 3 0 (narM yy0).length none,D.own 4 0 (narW yy0).length none,D.v (Value.bool (narO yy0))]),Slot.live (Row.data 22 yy3 (Mi m)),Slot.live (Row.data 22 yy3 (Mi (narM yy0))),Slot.live (Row.nest (NK.mk 27 yy1.sl 0 3 yy1) (narW yy0) none)])))∧(true=false→R (D.tup [D.own 0 0 m.length none,D.v (Value.bool true)],[],[Row.data 22 yy3 (Mi m)])))) hmG (fun G R=>by kernel_rfl) ?_
   try dsimp only
   simp only[narVal] at c59
   simp only[take_len,List.drop_zero,List.take_length,Mi_getD,Mi_len,Nt_Mi,Int.toNat_natCast,Mi_set,Nat.zero_add,Nat.sub_zero,List.length_set,take_one,takeSn,List.take_zero,List.nil_append,List.length_append,List.length_cons,List.length_nil,Mi_take]
   cases ho:narO ⟨g,W,m⟩ with
   |false=>
    have hr:=h1a rfl ho
    subst hr
    rw[ho] at c59
    simp (disch:=omega) only[oo,oop,ne_eq,Ty.dflt,reduceCtorEq]
    repeat' (first|with_reducible refine And.intro ?_ ?_|intro _)
    all_goals first|rfl|omega|assumption|trivial|(exfalso;simp_all;done)|(exfalso;omega)|skip
   |true=>
    have hg:=h1b rfl ho
    rw[ho] at c59
    simp (disch:=omega) only[oo,oop,ne_eq,Ty.dflt,reduceCtorEq]
    repeat' (first|with_reducible refine And.intro ?_ ?_|intro _)
    all_goals first|rfl|omega|assumption|trivial|(exfalso;simp_all;done)|(exfalso;omega)|skip
  ·have hr:=h0 rfl
   subst hr
   refine gets_vc spR (fun k=> [[2,8,9,11,34,35,36],[2,8,9,11,14,15,34,35,36,41,42,43]].getD k []) (fun _=> []) 400 (.fork (.hd 1) (.fork (.fork .stop (.hd 0)) .stop)) (V:=fun G R=>let yy0:=(Pr.mk g W (Nt (List.take m.length (List.drop 0 (Mi m)))));let yy1:=(Ty.int .i64);let yy2:=(Value.int .i64 (0:Int));let yy3:=(Ty.int .u64);(decide (i< (↑B.length:Int))=true→(0:Int)≤i∧i< (↑B.length:Int)∧SameK (KK r92 1) (KK r92 1)∧G 1 (stOf 105 [2,8,9,11,14,15,34,35,36,41,42,43] [D.sl false false (yy1.prod yy1).sl B,D.ptr 0 0 0,D.ptr 1 0 0,D.v (Value.bool false),D.v yy2,D.ptr 2 0 0,D.sl false false (yy1.prod yy1).sl B,D.v (Value.int .i64 (↑B.length:Int)),D.v (Value.int .i64 i),D.sl false false (yy1.prod yy1) (B.getD i.toNat (yy1.prod yy1).sl.dflt),D.v (Value.int .i64 (↑(List.length (B.getD i.toNat (yy1.prod yy1).sl.dflt)):Int)),D.v yy2] [Slot.live (Row.box 73 [D.v (Value.int .i64 g.h),D.v (Value.int .i64 g.w),D.sl false false Ty.bool g.B,D.sl false false Ty.bool g.R,D.sl false false Ty.bool g.L,D.sl false false yy1.sl W,D.own 3 0 q.length none]),Slot.live (Row.box 151 [D.own 4 0 m.length none,D.own 5 0 ws.length none,D.v (Value.bool true)]),Slot.live (Row.box 92 [D.v yy2,D.v yy2]),Slot.live (Row.data 22 yy3 (Mi q)),Slot.live (Row.data 22 yy3 (Mi m)),Slot.live (Row.nest (NK.mk 27 yy1.sl 0 3 yy1) ws none)]))∧(decide (i< (↑B.length:Int))=false→(false=true→Con Tryd.prog 123 [] [D.agg [D.v (Value.int .i64 yy0.g.h),D.v (Value.int .i64 yy0.g.w),D.sl false false Ty.bool yy0.g.B,D.sl false false Ty.bool yy0.g.R,D.sl false false Ty.bool yy0.g.L,D.sl false false yy1.sl yy0.W,D.sl false false yy3 (Mi yy0.M)]] (D.tup [D.agg [D.own 0 0 (narM yy0).length none,D.own 1 0 (narW yy0).length none,D.v (Value.bool (narO yy0))],D.v (Value.int .i64 (checkP yy0))]) [] [Row.data 22 yy3 (Mi (narM yy0)),Row.nest (NK.mk 27 yy1.sl 0 3 yy1) (narW yy0) none]∧Value.int .i64 g.h=Value.int .i64 yy0.g.h∧Value.int .i64 g.w=Value.int .i64 yy0.g.w∧g.B=yy0.g.B∧g.R=yy0.g.R∧g.L=yy0.g.L∧W=yy0.W∧List.take m.length (List.drop 0 (Mi m))=Mi yy0.M∧((!narO yy0)=true→R (D.tup [D.own 0 0 (narM yy0).length none,D.v (Value.bool false)],[],[Row.data 22 yy3 (Mi (narM yy0))]))∧((!narO yy0)=false→SameK (KK r92 0) (KK r92 0)∧G 0 (stOf 105 [2,8,9,11,34,35,36] [D.sl false false (yy1.prod yy1).sl B,D.ptr 0 0 0,D.ptr 1 0 0,D.v (Value.bool false),D.sl false false (yy1.prod yy1).sl B,D.v (Value.int .i64 (↑B.length:Int)),D.v yy2] [Slot.live (Row.box 73 [D.v (Value.int .i64 g.h),D.v (Value.int .i64 g.w),D.sl false false Ty.bool g.B,D.sl false false Ty.bool g.R,D.sl false false Ty.bool g.L,D.sl false false yy1.sl W,D.own 2 0 m.length none]),Slot.live (Row.box 151 [D.own 3 0 (narM yy0).length none,D.own 4 0 (narW yy0).length none,D.v (Value.bool (narO yy0))]),Slot.live (Row.data 22 yy3 (Mi m)),Slot.live (Row.data 22 yy3 (Mi (narM yy0))),Slot.live (Row.nest (NK.mk 27 yy1.sl 0 3 yy1) (narW yy0) none)])))∧(false=false→R (D.tup [D.own 0 0 m.length none,D.v (Value.bool true)],[],[Row.data 22 yy3 (Mi m)])))) hmG (fun G R=>by kernel_rfl) ?_
   try dsimp only
   simp (disch:=omega) only[oo,oop,ne_eq,Ty.dflt,reduceCtorEq]
   repeat' (first|with_reducible refine And.intro ?_ ?_|intro _)
   all_goals first|rfl|omega|assumption|trivial|(exfalso;simp_all;done)|(exfalso;omega)|skip
 |succ z ih=>
  intro i m st ch i0 hi hm hl hc hp
  have hk1:IntKind.i64.wrap (i+1)=i+1:=wrG (by omega) (by omega)
  have hxm:=getD_in (d:=([]:List (Int×Int))) (k:=i.toNat) (l:=B) (by omega)
  have hx:=hB _ hxm
  rw[drop_at (xs:=B) (i:=i) ([]:List (Int×Int)) i0 (by omega),pass_cons] at hp
  obtain⟨l,hll⟩:∃l,B.getD i.toNat []=l:=⟨_,rfl⟩
  rw[hll] at hx hp
  have hg:=e92c g W B q m ws ch i r l hm hx.1 (fun x h=>by have:=hx.2 x h;omega) hk1 (unitF m l)
   (fun e=>by
    rw[if_pos e] at hp
    simp only[Prod.mk.injEq] at hp
    rw[hp.1]
    exact h2 hp.2.symm)
   (fun e=>by
    rw[if_neg (by omega),if_pos e] at hp
    exact ih (i+1) _ 1 true (by omega) (by omega) (letgo_small hm _) (by rw[letgo_len];exact hl) (Or.inl ⟨rfl,rfl⟩) hp)
   (fun e=>by
    rw[if_neg (by omega),if_neg (by omega)] at hp
    exact ih (i+1) m st ch (by omega) (by omega) hm hl hc hp)
   l.length 0 0 (0,0) (by omega) (by omega) (Or.inl rfl) rfl
  refine gets_vc spR (fun k=> [[2,8,9,11,34,35,36],[2,8,9,11,14,15,34,35,36,41,42,43]].getD k []) (fun _=> []) 400 (.fork (.hd 1) (.fork (.fork .stop (.hd 0)) .stop)) (V:=fun G R=>let yy0:=(Pr.mk g W (Nt (List.take m.length (List.drop 0 (Mi m)))));let yy1:=(Ty.int .i64);let yy2:=(Value.int .i64 (0:Int));let yy3:=(Ty.int .u64);(decide (i< (↑B.length:Int))=true→(0:Int)≤i∧i< (↑B.length:Int)∧SameK (KK r92 1) (KK r92 1)∧G 1 (stOf 105 [2,8,9,11,14,15,34,35,36,41,42,43] [D.sl false false (yy1.prod yy1).sl B,D.ptr 0 0 0,D.ptr 1 0 0,D.v (Value.bool ch),D.v yy2,D.ptr 2 0 0,D.sl false false (yy1.prod yy1).sl B,D.v (Value.int .i64 (↑B.length:Int)),D.v (Value.int .i64 i),D.sl false false (yy1.prod yy1) (B.getD i.toNat (yy1.prod yy1).sl.dflt),D.v (Value.int .i64 (↑(List.length (B.getD i.toNat (yy1.prod yy1).sl.dflt)):Int)),D.v yy2] [Slot.live (Row.box 73 [D.v (Value.int .i64 g.h),D.v (Value.int .i64 g.w),D.sl false false Ty.bool g.B,D.sl false false Ty.bool g.R,D.sl false false Ty.bool g.L,D.sl false false yy1.sl W,D.own 3 0 q.length none]),Slot.live (Row.box 151 [D.own 4 0 m.length none,D.own 5 0 ws.length none,D.v (Value.bool true)]),Slot.live (Row.box 92 [D.v yy2,D.v yy2]),Slot.live (Row.data 22 yy3 (Mi q)),Slot.live (Row.data 22 yy3 (Mi m)),Slot.live (Row.nest (NK.mk 27 yy1.sl 0 3 yy1) ws none)]))∧(decide (i< (↑B.length:Int))=false→(ch=true→Con Tryd.prog 123 [] [D.agg [D.v (Value.int .i64 yy0.g.h),D.v (Value.int .i64 yy0.g.w),D.sl false false Ty.bool yy0.g.B,D.sl false false Ty.bool yy0.g.R,D.sl false false Ty.bool yy0.g.L,D.sl false false yy1.sl yy0.W,D.sl false false yy3 (Mi yy0.M)]] (D.tup [D.agg [D.own 0 0 (narM yy0).length none,D.own 1 0 (narW yy0).length none,D.v (Value.bool (narO yy0))],D.v (Value.int .i64 (checkP yy0))]) [] [Row.data 22 yy3 (Mi (narM yy0)),Row.nest (NK.mk 27 yy1.sl 0 3 yy1) (narW yy0) none]∧Value.int .i64 g.h=Value.int .i64 yy0.g.h∧Value.int .i64 g.w=Value.int .i64 yy0.g.w∧g.B=yy0.g.B∧g.R=yy0.g.R∧g.L=yy0.g.L∧W=yy0.W∧List.take m.length (List.drop 0 (Mi m))=Mi yy0.M∧((!narO yy0)=true→R (D.tup [D.own 0 0 (narM yy0).length none,D.v (Value.bool false)],[],[Row.data 22 yy3 (Mi (narM yy0))]))∧((!narO yy0)=false→SameK (KK r92 0) (KK r92 0)∧G 0 (stOf 105 [2,8,9,11,34,35,36] [D.sl false false (yy1.prod yy1).sl B,D.ptr 0 0 0,D.ptr 1 0 0,D.v (Value.bool false),D.sl false false (yy1.prod yy1).sl B,D.v (Value.int .i64 (↑B.length:Int)),D.v yy2] [Slot.live (Row.box 73 [D.v (Value.int .i64 g.h),D.v (Value.int .i64 g.w),D.sl false false Ty.bool g.B,D.sl false false Ty.bool g.R,D.sl false false Ty.bool g.L,D.sl false false yy1.sl W,D.own 2 0 m.length none]),Slot.live (Row.box 151 [D.own 3 0 (narM yy0).length none,D.own 4 0 (narW yy0).length none,D.v (Value.bool (narO yy0))]),Slot.live (Row.data 22 yy3 (Mi m)),Slot.live (Row.data 22 yy3 (Mi (narM yy0))),Slot.live (Row.nest (NK.mk 27 yy1.sl 0 3 yy1) (narW yy0) none)])))∧(ch=false→R (D.tup [D.own 0 0 m.length none,D.v (Value.bool true)],[],[Row.data 22 yy3 (Mi m)])))) hmG (fun G R=>by kernel_rfl) ?_
  try dsimp only
  simp only[Ty.dflt,hll]
  simp (disch:=omega) only[oo,oop,ne_eq,Ty.dflt,reduceCtorEq]
  repeat' (first|with_reducible refine And.intro ?_ ?_|intro _)
  all_goals first|rfl|omega|assumption|trivial|(exfalso;simp_all;done)|(exfalso;omega)|skip
theorem e92a (g:Gr) (W:List (List Int)) (B:List (List (Int×Int))) (n:Nat) (hBl:B.length≤1000000) (hB:∀l∈B,l.length≤8796093022208∧∀x∈l,0≤x.1∧x.1<n) (fu:Nat):∀q:List Nat,q.sum<fu→Smalls q→q.length=n→checkP ⟨g,W,q⟩=0→narO ⟨g,W,q⟩=true→∀r,r=spreadF g W B fu q→GetsK Tryd.prog Tryd.f92.results.toList [none,none] (KK r92) 0 (.tup [.own 0 0 r.1.length none,.v (.bool r.2)],[],[.data 22 (.int .u64) (Mi r.1)]) 0 (stOf 105 [2,8,9,11,34,35,36] [slBd B,.ptr 0 0 0,.ptr 1 0 0,.v (.bool false),slBd B,.v (.int .i64 B.length),.v (.int .i64 0)] [.live (.box 73 [.v (.int .i64 g.h),.v (.int .i64 g.w),.sl false false .bool g.B,.sl false false .bool g.R,.sl false false .bool g.L,slW W,.own 2 0 q.length none]),.live (.box 151 [.own 3 0 (narM ⟨g,W,q⟩).length none,.own 4 0 (narW ⟨g,W,q⟩).length none,.v (.bool true)]),.live (.data 22 (.int .u64) (Mi q)),.live (.data 22 (.int .u64) (Mi (narM ⟨g,W,q⟩))),.live (.nest kW (narW ⟨g,W,q⟩) none)]):=by
 induction fu with
 |zero=>intro q h;omega
 |succ fu ih=>
  intro q hs hq hl hc ho r hr
  have hns:=nar_small hc hq
  have hnl:=narM_len _ hc
  simp only at hnl
  have hsum:(narM ⟨g,W,q⟩).sum≤q.sum:=by
   refine sum_le hnl fun c=>sub_le fun i hi=> ?_
   exact(nar_given hc) c i hi
  obtain⟨f1,f2,f3,f4⟩:=pass_facts n B (narM ⟨g,W,q⟩) 0 (fun l hl x hx=>(hB l hl).2 x hx) (by omega) hns
  simp only[spreadF,ho,if_true] at hr
  obtain⟨mE,stE,hE⟩:∃mE stE,passF B (narM ⟨g,W,q⟩) 0=(mE,stE):=⟨_,_,rfl⟩
  rw[hE] at hr f1 f2 f3 f4
  simp only at hr f1 f2 f3 f4
  have hcE:checkP ⟨g,W,mE⟩=0:=by rw[again_check (p:=⟨g,W,q⟩) (by simp only;omega)];exact hc
  refine e92b g W B q _ r n hBl hB mE stE f2 (fun e=>by rw[hr,if_pos e]) (fun e=>by rw[hr,if_neg (by omega),if_neg (by omega)]) (fun e hn=> ?_) (fun e hn=> ?_) B.length 0 _ 0 false (by omega) (by omega) hns (by omega) (Or.inr ⟨rfl,rfl⟩) hE
  ·have h4:=f4 trivial e
   rw[hr,if_neg (by omega),if_pos e]
   cases fu with
   |zero=>omega
   |succ fu=>
    simp only[spreadF,hn,Bool.false_eq_true,if_false]
  ·have h4:=f4 trivial e
   exact ih mE (by omega) f2 f1 hcE hn r (by rw[hr,if_neg (by omega),if_pos e])
theorem d92 (g:Gr) (W:List (List Int)) (M:List Nat) (F:List (Int×Int)) (B:List (List (Int×Int))) (hc:checkP ⟨g,W,M⟩=0) (hM:Smalls M) (hFl:F.length≤8796093022208) (hF:∀x∈F,0≤x.1∧x.1<M.length) (hBl:B.length≤1000000) (hB:∀l∈B,l.length≤8796093022208∧∀x∈l,0≤x.1∧x.1<M.length):Con Tryd.prog 92 [] [.agg [.v (.int .i64 g.h),.v (.int .i64 g.w),.sl false false .bool g.B,.sl false false .bool g.R,.sl false false .bool g.L,slW W,slU M],slQ F,slBd B] (.tup [.own 0 0 (spreadG ⟨g,W,M⟩ F B).1.length none,.v (.bool (spreadG ⟨g,W,M⟩ F B).2)]) [] [.data 22 (.int .u64) (Mi (spreadG ⟨g,W,M⟩ F B).1)]:=by
 refine con_vc (how:=[none,none]) (c:=r92) (K:=(KK r92)) spR (fun k=> [[2,8,9,11,34,35,36],[2,8,9,11,14,15,34,35,36,41,42,43]].getD k []) (fun _=> []) 400 (.fork .stop (.hd 0)) (V:=fun G R=>let yy0:=(Pr.mk g W (Nt (List.take (Pr.mk g W (Nt (Mi M))).M.length (List.drop 0 (Mi (givenF F (Pr.mk g W (Nt (Mi M))).M))))));let yy1:=(Pr.mk g W (Nt (Mi M)));let yy2:=(Ty.int .i64);let yy3:=(Ty.int .u64);Con Tryd.prog 122 [] [D.agg [D.v (Value.int .i64 yy1.g.h),D.v (Value.int .i64 yy1.g.w),D.sl false false Ty.bool yy1.g.B,D.sl false false Ty.bool yy1.g.R,D.sl false false Ty.bool yy1.g.L,D.sl false false yy2.sl yy1.W,D.sl false false yy3 (Mi yy1.M)],D.sl false false (yy2.prod yy2) F] (D.own 0 0 yy1.M.length none) [] [Row.data 22 yy3 (Mi (givenF F yy1.M))]∧Value.int .i64 g.h=Value.int .i64 yy1.g.h∧Value.int .i64 g.w=Value.int .i64 yy1.g.w∧g.B=yy1.g.B∧g.R=yy1.g.R∧g.L=yy1.g.L∧W=yy1.W∧Mi M=Mi yy1.M∧F=F∧Con Tryd.prog 123 [] [D.agg [D.v (Value.int .i64 yy0.g.h),D.v (Value.int .i64 yy0.g.w),D.sl false false Ty.bool yy0.g.B,D.sl false false Ty.bool yy0.g.R,D.sl false false Ty.bool yy0.g.L,D.sl false false yy2.sl yy0.W,D.sl false false yy3 (Mi yy0.M)]] (D.tup [D.agg [D.own 0 0 (narM yy0).length none,D.own 1 0 (narW yy0).length none,D.v (Value.bool (narO yy0))],D.v (Value.int .i64 (checkP yy0))]) [] [Row.data 22 yy3 (Mi (narM yy0)),Row.nest (NK.mk 27 yy2.sl 0 3 yy2) (narW yy0) none]∧Value.int .i64 g.h=Value.int .i64 yy0.g.h∧Value.int .i64 g.w=Value.int .i64 yy0.g.w∧g.B=yy0.g.B∧g.R=yy0.g.R∧g.L=yy0.g.L∧W=yy0.W∧List.take yy1.M.length (List.drop 0 (Mi (givenF F yy1.M)))=Mi yy0.M∧((!narO yy0)=true→R (D.tup [D.own 0 0 (narM yy0).length none,D.v (Value.bool false)],[],[Row.data 22 yy3 (Mi (narM yy0))]))∧((!narO yy0)=false→SameK (KK r92 0) (KK r92 0)∧G 0 (stOf 105 [2,8,9,11,34,35,36] [D.sl false false (yy2.prod yy2).sl B,D.ptr 0 0 0,D.ptr 1 0 0,D.v (Value.bool false),D.sl false false (yy2.prod yy2).sl B,D.v (Value.int .i64 (↑B.length:Int)),D.v (Value.int .i64 (0:Int))] [Slot.live (Row.box 73 [D.v (Value.int .i64 g.h),D.v (Value.int .i64 g.w),D.sl false false Ty.bool g.B,D.sl false false Ty.bool g.R,D.sl false false Ty.bool g.L,D.sl false false yy2.sl W,D.own 2 0 yy1.M.length none]),Slot.live (Row.box 151 [D.own 3 0 (narM yy0).length none,D.own 4 0 (narW yy0).length none,D.v (Value.bool (narO yy0))]),Slot.live (Row.data 22 yy3 (Mi (givenF F yy1.M))),Slot.live (Row.data 22 yy3 (Mi (narM yy0))),Slot.live (Row.nest (NK.mk 27 yy2.sl 0 3 yy2) (narW yy0) none)]))) hmG Tryd.func92 (by kernel_rfl) (by kernel_rfl) (fun G R=>by kernel_rfl) ?_
 try dsimp only
 try dsimp only
 have hMs:(M.length:Int)=g.h*g.w:=(checkP_zero hc).2.2.2
 have hMl:M.length≤300:=by
  have hw:=hw_in (chk0.1 (checkP_zero hc).1).1 (chk0.1 (checkP_zero hc).1).2.1
  simp only at hw
  omega
 have hM0:M≠ []:=by
  intro e
  have s1:=side_iff.1 (chk0.1 (checkP_zero hc).1).1
  have s2:=side_iff.1 (chk0.1 (checkP_zero hc).1).2.1
  simp only at s1 s2
  rw[e] at hMs
  have:0<g.h*g.w:=Int.mul_pos (by omega) (by omega)
  simp at hMs
  omega
 have hgs:=given_small F hM
 have hgl:=given_len F M
 have c1:=d122R g W M F hM hM0 (by omega) hFl hF
 have c59:=d59 g W (givenF F M) hgs
 have hcq:checkP ⟨g,W,givenF F M⟩=0:=by rw[again_check (p:=⟨g,W,M⟩) hgl];exact hc
 have hTk:List.take M.length (Mi (givenF F M))=Mi (givenF F M):=by rw[←hgl];exact Mi_take _
 simp only[narVal] at c59
 simp only[take_len,List.drop_zero,List.take_length,Mi_getD,Mi_len,Nt_Mi,Int.toNat_natCast,Mi_set,Nat.zero_add,Nat.sub_zero,List.length_set,take_one,takeSn,List.take_zero,List.nil_append,List.length_append,List.length_cons,List.length_nil,hTk]
 obtain⟨r,hr⟩:∃r,spreadG ⟨g,W,M⟩ F B=r:=⟨_,rfl⟩
 rw[hr]
 cases ho:narO ⟨g,W,givenF F M⟩ with
 |false=>
  have e:r=(narM ⟨g,W,givenF F M⟩,false):=by
   rw[←hr]
   simp only[spreadG,spreadF,ho,Bool.false_eq_true,if_false]
  rw[ho] at c59
  subst e
  simp (disch:=omega) only[oo,oop,ne_eq,Ty.dflt,reduceCtorEq]
  repeat' (first|with_reducible refine And.intro ?_ ?_|intro _)
  all_goals first|rfl|omega|assumption|trivial|(exfalso;simp_all;done)|(exfalso;omega)|skip
 |true=>
  have hg:=e92a g W B M.length hBl hB ((givenF F M).sum+1) (givenF F M) (by omega) hgs hgl hcq ho r hr.symm
  rw[ho] at c59
  rw[hgl] at hg
  simp (disch:=omega) only[oo,oop,ne_eq,Ty.dflt,reduceCtorEq]
  repeat' (first|with_reducible refine And.intro ?_ ?_|intro _)
  all_goals first|rfl|omega|assumption|trivial|(exfalso;simp_all;done)|(exfalso;omega)|skip
end Go.Proofs.YtnakmganodkliaaDoorAm
set_option maxRecDepth 100000
namespace Go.Proofs.YtnakmganodkliaaDoorAm
open Go
theorem right_fits {g:Gr} {W:List (List Int)} {M:List Nat} (hc:checkP ⟨g,W,M⟩=0) (hM:Smalls M):(Pr.mk g W M).fits∧M.length≤300∧M≠ []:=by
 obtain⟨h1,h2,h3,h4⟩:=checkP_zero hc
 simp only at h1 h2 h3 h4
 have hw:=hw_in (chk0.1 h1).1 (chk0.1 h1).2.1
 have sz:=size3 (chk0.1 h1).2.2.1
 have s1:=side_iff.1 (chk0.1 h1).1
 have s2:=side_iff.1 (chk0.1 h1).2.1
 have hpos:0<g.h*g.w:=Int.mul_pos (by omega) (by omega)
 refine⟨⟨⟨by simp only;omega,by simp only;omega,by simp only;omega⟩,by simp only;omega,fun w h=> ?_,by simp only;omega,hM⟩,by omega,fun e=> ?_⟩
 ·have:=(h3 w h).2.1
  omega
 ·rw[e] at h4
  simp at h4
  omega
end Go.Proofs.YtnakmganodkliaaDoorAm
set_option maxRecDepth 100000
namespace Go.Proofs.YtnakmganodkliaaDoorAm
open Go
def pairOk (A E:List (Int×Int)) (x:Int×Int):Bool:=decide (0≤x.1∧x.1<A.length∧0≤x.2∧x.2≤63)&&(decide (0≤(A.getD x.1.toNat (0,0)).1)||decide (0≤(E.getD x.1.toNat (0,0)).1))
def oddP (A E:List (Int×Int)) (x:Int×Int):Bool:= !pairOk A E x
def findP (f:Int×Int→Bool):Int→List (Int×Int)→Int
 |_,[]=> -1
 |k,x::xs=>if f x then k else findP f (k+1) xs
theorem findP_any (f:Int×Int→Bool):∀(l:List (Int×Int)) (k:Int),0≤k→decide (findP f k l≥0)=l.any f
 | [],k,_=>rfl
 |x::xs,k,h=>by
  rw[List.any_cons]
  by_cases hf:f x=true
  ·have e:findP f k (x::xs)=k:=by simp only[findP,hf,if_true]
   rw[e,hf,Bool.true_or]
   exact decide_eq_true h
  ·have hf':f x=false:=by simpa using hf
   have e:findP f k (x::xs)=findP f (k+1) xs:=by simp only[findP,hf',Bool.false_eq_true,if_false]
   rw[e,hf',Bool.false_or]
   exact findP_any f xs (k+1) (by omega)
abbrev oddD (A E:List (Int×Int)):D:= .fn 90 [.rptr [slQ A],.rptr [slQ E]]
def checkN (p:Pr) (A E:List (Int×Int)) (B:List (List (Int×Int))):Nat→Int→Int×Int
 |0,_=>if B=[] then(0,151) else if(B.getD (B.length-1) []).length>0 then((B.length:Int),151) else(0,0)
 |z+1,i=>if(B.getD i.toNat []).any (oddP A E) then(i,150) else if(spreadG p (B.getD i.toNat []) (B.take i.toNat)).2 then(i,151) else checkN p A E B z (i+1)
def checkR (p:Pr) (B:List (List (Int×Int))):Int×Int:=if checkP p=0 then(if(B.length:Int)>65000 then(0,2) else checkN p (seatsF p.g).1 (seatsF p.g).2 B B.length 0) else(0,checkP p)
def spS:Sp:=fun f args rd=>match f,args with
 |93,[a,e,.agg [.v (.int _ c),.v (.int _ y)]]=>match slC rd SeT [a],slC rd SeT [e] with
  |some A,some E=>some {f:=93,args:=[slQ A,slQ E,.agg [.v (.int .i64 c),.v (.int .i64 y)]],val:= .v (.bool (pairOk A E (c,y))),lent:=refsDs [a,e]}
  |_,_=>none
 |90,[.agg [.v (.int _ c),.v (.int _ y)],.rptr [a],.rptr [e]]=>match slC rd SeT [a],slC rd SeT [e] with
  |some A,some E=>some {f:=90,args:=[.agg [.v (.int .i64 c),.v (.int .i64 y)],.rptr [slQ A],.rptr [slQ E]],val:= .v (.bool (oddP A E (c,y)))}
  |_,_=>none
 |121,[l,.fn 90 [.rptr [a],.rptr [e]]]=>match slC rd SeT [l],slC rd SeT [a],slC rd SeT [e] with
  |some L,some A,some E=>some {f:=121,args:=[slQ L,oddD A E],val:= .v (.int .i64 (findP (oddP A E) 0 L)),lent:=refsDs [l]}
  |_,_,_=>none
 |91,[l,.fn 90 [.ptr b1 _ _,.ptr b2 _ _]]=>match rd b1,rd b2 with
  |some (.box _ [a]),some (.box _ [e])=>match slC rd SeT [l],slC rd SeT [a],slC rd SeT [e] with
   |some L,some A,some E=>some {f:=91,args:=[slQ L,oddD A E],val:= .v (.bool (L.any (oddP A E))),lent:=b1::b2::refsDs [l,a,e]}
   |_,_,_=>none
  |_,_=>none
 |40,[.agg [.v (.int _ h),.v (.int _ w),b,r,l]]=>withW rd h w b r l fun g ls=>some {f:=40,args:=[g.d],val:= .tup [.own 0 0 (seatsF g).1.length none,.own 1 0 (seatsF g).2.length none],allocs:=[.data 61 SeT (seatsF g).1,.data 61 SeT (seatsF g).2],lent:=ls}
 |41,[.agg [.v (.int _ h),.v (.int _ w),b,r,l]]=>withW rd h w b r l fun g ls=>some {f:=41,args:=[g.d],val:= .tup [.own 0 0 (seatsF g).1.length none,.own 1 0 (seatsF g).2.length none],allocs:=[.data 61 SeT (seatsF g).1,.data 61 SeT (seatsF g).2],lent:=ls}
 |f,args=>spR f args rd
noncomputable def r121:Code:=(Tryd.f121.body).getD .skip
noncomputable def r91:Code:=(Tryd.f91.body).getD .skip
end Go.Proofs.YtnakmganodkliaaDoorAm
namespace Go.Proofs.YtnakmganodkliaaDoorAm
open Go
def wlayF (M:List Nat) (f:List Int):List Int→List Int→List Int→Option (List Int)
 | [],[],g=>some g
 |c::cs,x::ws,g=>if(decide (f.getD c.toNat 0≥0)&&f.getD c.toNat 0 !=x)|| !hasN (M.getD c.toNat 0) x then none else wlayF M f cs ws (g.set c.toNat x)
 |_,_,_=>none
def loopD (rec:List Int→List (List Int)×Int→List (List Int)×Int) (M:List Nat) (C f:List Int):List (List Int)→List (List Int)×Int→List (List Int)×Int
 | [],q=>q
 |w::ws,q=>if q.2≤4000 then loopD rec M C f ws (match wlayF M f C w f with|some g=>rec g q|none=>q) else q
def downF (M:List Nat) (W:List (List Int)):List Slt→List Int→List (List Int)×Int→List (List Int)×Int
 | [],f,q=>(q.1++[f],q.2+1)
 |s::ss,f,q=>loopD (downF M W ss) M s.2.2 f W (q.1,q.2+1)
def diffF:List (List Int)→List (List Int)→List (List Int)
 |acc,[]=>acc
 |acc,w::ws=>diffF (if acc.any (fun v=>decide (v=w)) then acc else acc++[w]) ws
def smallF (p:Pr):List (List Int)×Int:=downF p.M (diffF [] p.W) (slotsF p.g) (List.replicate p.M.length (-1)) ([],0)
theorem getD_setI (l:List Int) (c:Nat) (v:Int) (d:Nat) (e:Int):(l.set c v).getD d e=if c=d∧c<l.length then v else l.getD d e:=getD_set_gen e l c v d
structure Fil (p:Pr) (S:List Slt) (f:List Int):Prop where
 len:f.length=p.M.length
 low:∀c,0≤f.getD c (-1)→hasN (p.M.getD c 0) (f.getD c (-1))=true∧seatedB (slotsF p.g) c=true
 word:∀s∈S,(s.2.2.map fun c=>f.getD c.toNat (-1))∈p.W
 here:∀s∈S,∀c∈s.2.2,0≤f.getD c.toNat (-1)
theorem seated_of {S:List Slt} {s:Slt} {c:Int} (hs:s∈S) (hc:c∈s.2.2):seatedB S c.toNat=true:=by
 unfold seatedB
 rw[List.any_eq_true]
 exact⟨s,hs,by rw[List.any_eq_true];exact⟨c,hc,beq_self_eq_true _⟩⟩
theorem cells_in {p:Pr} (hc:checkP p=0) {s:Slt} (hs:s∈slotsF p.g):∀c∈s.2.2,0≤c∧c.toNat<p.M.length:=by
 intro c h
 have h1:=slots_in (checkP_zero hc).1 s hs c h
 have h2:=(checkP_zero hc).2.2.2
 omega
theorem bit_of_one {y:Int} {i:Nat} (h:(bitN y).testBit i=true):y=(i:Int):=by
 unfold bitN at h
 split at h
 ·simp at h
 ·rename_i hy
  rw[Nat.testBit_two_pow] at h
  have:=of_decide_eq_true h
  omega
theorem sub_bit {v:Nat} {y:Int} (h:hasN v y=true) {i:Nat} (hi:v.testBit i=true) (ne:y≠(i:Int)):(v-bitN y).testBit i=true:=by
 have hy:=has_lt h
 unfold hasN at h
 simp only[Bool.and_eq_true,decide_eq_true_eq] at h
 have hb:bitN y=2^y.toNat:=by unfold bitN;rw[if_neg (by omega)]
 have h1:(v^^^2^y.toNat).testBit y.toNat=false:=by
  rw[Nat.testBit_xor,h.2.2,Nat.testBit_two_pow_self];rfl
 have h2:(v^^^2^y.toNat)+2^y.toNat=v:=by
  rw[add_or h1]
  apply Nat.eq_of_testBit_eq
  intro k
  rw[Nat.testBit_or,Nat.testBit_xor,Nat.testBit_two_pow]
  by_cases e:y.toNat=k
  ·subst e;rw[h.2.2];simp
  ·rw[decide_eq_false e];simp
 rw[hb,show v-2^y.toNat=v^^^2^y.toNat by omega,Nat.testBit_xor,hi,Nat.testBit_two_pow,decide_eq_false (by omega)]
 rfl
structure Clo (p:Pr) (B:List (List (Int×Int))) (R:List Nat):Prop where
 len:R.length=p.M.length
 st:Stable p.W (slotsF p.g) R
 lo:Leq R (m0F p)
 ok:okF (slotsF p.g) R (wordsF p.W (slotsF p.g) R)=true
 no:∀l∈B,(unitF R l).1=0
def Seated (S:List Slt) (B:List (List (Int×Int))):Prop:=∀l∈B,∀x∈l,seatedB S x.1.toNat=true
theorem ok_cell {S:List Slt} {m:List Nat} {ws:List (List Int)} (h:okF S m ws=true) {c:Nat} (hs:seatedB S c=true):m.getD c 0≠0:=by
 unfold okF at h
 rw[Bool.and_eq_true,List.all_eq_true,List.all_eq_true] at h
 unfold seatedB at hs
 rw[List.any_eq_true] at hs
 obtain⟨s,hs1,hs2⟩:=hs
 rw[List.any_eq_true] at hs2
 obtain⟨z,hz1,hz2⟩:=hs2
 have h1:=List.all_eq_true.1 (h.2 s hs1) z hz1
 rw[beq_iff_eq] at hz2
 rw[hz2] at h1
 simpa using h1
theorem m0_most {g:Gr} {W:List (List Int)} {M q R:List Nat} (hq:q.length=M.length) (h:Leq R (m0F ⟨g,W,M⟩)) (h2:Leq R q):Leq R (m0F ⟨g,W,q⟩):=by
 intro c i hi
 have h1:=h c i hi
 have hc:c<M.length:=by have:=bit_lt h1;rwa [m0_len] at this
 unfold bitAt at h1⊢
 rw[m0_get (p:=⟨g,W,M⟩) hc] at h1
 rw[m0_get (p:=⟨g,W,q⟩) (by simpa only[hq] using hc)]
 simp only at h1⊢
 split at h1
 ·rename_i hs
  rw[if_pos hs]
  exact h2 c i hi
 ·simp at h1
theorem clo_nar {p:Pr} (hc:checkP p=0) {B:List (List (Int×Int))} {R:List Nat} (h:Clo p B R) {q:List Nat} (hq:q.length=p.M.length) (hl:Leq R q):Leq R (narM ⟨p.g,p.W,q⟩)∧narO ⟨p.g,p.W,q⟩=true:=by
 have hR:checkP ⟨p.g,p.W,R⟩=0:=by rw[again_check h.len];exact hc
 have hQ:checkP ⟨p.g,p.W,q⟩=0:=by rw[again_check hq];exact hc
 have k:∀{r:List Nat},r.length=p.M.length→checkP ⟨p.g,p.W,r⟩=0→Leq R r→Leq R (narM ⟨p.g,p.W,r⟩):=fun hr hk hl=>by
  rw[narM_eq hk]
  exact gfp_most _ _ _ h.st (m0_most hr h.lo hl)
 refine⟨k hq hQ hl,narO_mono hQ (M':=R) (by rw[hq];exact h.len) hl ?_⟩
 have e:narM ⟨p.g,p.W,R⟩=R:=leq_antisymm (by rw[narM_len _ hR]) (nar_given hR) (k h.len hR (Leq.refl R))
 rw[narO_eq hR,narW_eq hR,e]
 exact h.ok
theorem bit_at {m:List Nat} {x:Int×Int} (h:hereB m x=true):bitAt m x.1.toNat x.2.toNat:=(has_bit.1 h).2.2
theorem stand_down {R m:List Nat} (hl:Leq R m) {x:Int×Int} (h0:R.getD x.1.toNat 0≠0) (hh:hereB m x=true) (ho:openB m x=false):hereB R x=true∧openB R x=false:=by
 unfold openB at ho⊢
 rw[bne_eq_false_iff_eq] at ho⊢
 have hx:=has_lt hh
 have e:R.getD x.1.toNat 0=bitN x.2:=by
  have hb:bitN x.2=2^x.2.toNat:=by unfold bitN;rw[if_neg (by omega)]
  have one:∀i,(R.getD x.1.toNat 0).testBit i=true→x.2=(i:Int):=fun i hi=>by
   have:=hl _ i hi
   unfold bitAt at this
   rw[ho] at this
   exact bit_of_one this
  obtain⟨t,ht⟩:=min_bit _ h0
  have e1:=one t ht.1
  apply Nat.eq_of_testBit_eq
  intro i
  rw[hb,Nat.testBit_two_pow]
  by_cases e2:x.2.toNat=i
  ·subst e2
   rw[decide_eq_true rfl,show x.2.toNat=t by omega]
   exact ht.1
  ·rw[decide_eq_false e2]
   cases hi:(R.getD x.1.toNat 0).testBit i with
   |false=>rfl
   |true=>
    have:=one i hi
    omega
 refine⟨has_bit.2 ⟨hx.1,hx.2,?_⟩,e⟩
 unfold bitAt
 rw[e]
 unfold bitN
 rw[if_neg (by omega),Nat.testBit_two_pow_self]
theorem unit_down {R m:List Nat} (hl:Leq R m) {l:List (Int×Int)} (h0:∀x∈l,R.getD x.1.toNat 0≠0) (hn:(unitF R l).1=0):(unitF m l).1≠2∧((unitF m l).1=1→hereB R (unitF m l).2=false):=by
 have all0:∀y:Int×Int,(∀x∈l,hereB R x=true∧(openB R x=true→x=y))→False:=fun y h=>by
  unfold unitF at hn
  rw[if_pos (List.all_eq_true.2 fun x hx=>(h x hx).1),oneF_all] at hn
  split at hn
  ·cases hn
  ·rename_i hf
   have hm:∀x∈l.filter (openB R),x=y:=fun x hx=>(h x (List.mem_filter.1 hx).1).2 (List.mem_filter.1 hx).2
   rw[if_pos] at hn
   ·cases hn
   ·refine List.all_eq_true.2 fun x hx=> ?_
    rw[beq_iff_eq,hm x hx,hm _ (getD_in (List.length_pos_iff.2 hf))]
 unfold unitF
 split
 ·rename_i ha
  have here:∀x∈l,hereB m x=true:=List.all_eq_true.1 ha
  cases hf:l.filter (openB m) with
  |nil=>
   refine absurd (fun x hx=> ?_) (all0 (0,0))
   have ho:openB m x=false:=by
    cases e:openB m x with
    |false=>rfl
    |true=>
     have:x∈l.filter (openB m):=List.mem_filter.2 ⟨hx,e⟩
     rw[hf] at this
     simp at this
   obtain⟨a,b⟩:=stand_down hl (h0 x hx) (here x hx) ho
   exact⟨a,fun e=>by rw[b] at e;cases e⟩
  |cons a rest=>
   simp only[oneF]
   split
   ·rename_i h1
    refine⟨by simp,fun _=> ?_⟩
    cases hr:hereB R a with
    |false=>rfl
    |true=>
     refine absurd (fun x hx=> ?_) (all0 a)
     cases ho:openB m x with
     |false=>
      obtain⟨c,d⟩:=stand_down hl (h0 x hx) (here x hx) ho
      exact⟨c,fun e=>by rw[d] at e;cases e⟩
     |true=>
      have hm:x∈l.filter (openB m):=List.mem_filter.2 ⟨hx,ho⟩
      have e:x=a:=by
       rw[hf] at hm
       rcases List.mem_cons.1 hm with e|hm
       ·exact e
       ·have:=List.all_eq_true.1 h1 x hm
        exact beq_iff_eq.1 this
      rw[e]
      exact⟨hr,fun _=>rfl⟩
   ·exact⟨by simp,fun h=>by simp at h⟩
 ·exact⟨by simp,fun h=>by simp at h⟩
theorem letgo_leq {R m:List Nat} {x:Int×Int} (hl:Leq R m) (hh:hereB m x=true) (hn:hereB R x=false):Leq R (letgo m x):=by
 intro c i hi
 have h1:=hl c i hi
 unfold bitAt letgo
 rw[getD_set_nat]
 split
 ·rename_i e
  rw[e.1]
  refine sub_bit (by rw[←e.1];exact hh) h1 fun e2=> ?_
  have:=has_lt hh
  rw[show hereB R x=true from has_bit.2 ⟨this.1,this.2,by rw[e.1,e2,Int.toNat_natCast];exact hi⟩] at hn
  cases hn
 ·exact h1
theorem pass_clo {R:List Nat}:∀(B:List (List (Int×Int))) (m:List Nat) (st:Int),(∀l∈B,(∀x∈l,R.getD x.1.toNat 0≠0)∧(unitF R l).1=0)→Leq R m→st≠2→(passF B m st).2≠2∧Leq R (passF B m st).1
 | [],m,st,_,hl,h=>⟨h,hl⟩
 |l::ls,m,st,hB,hl,h=>by
  obtain⟨u1,u2⟩:=unit_down hl (hB l List.mem_cons_self).1 (hB l List.mem_cons_self).2
  rw[pass_cons,if_neg u1]
  split
  ·rename_i e
   exact pass_clo ls _ 1 (fun x hx=>hB x (List.mem_cons_of_mem _ hx)) (letgo_leq hl (unit_one e).2 (u2 e)) (by decide)
  ·exact pass_clo ls m st (fun x hx=>hB x (List.mem_cons_of_mem _ hx)) hl h
theorem pass_len:∀(B:List (List (Int×Int))) (m:List Nat) (st:Int),(passF B m st).1.length=m.length
 | [],m,st=>rfl
 |l::ls,m,st=>by
  rw[pass_cons]
  split
  ·rfl
  ·split
   ·rw[pass_len ls,letgo_len]
   ·exact pass_len ls m st
theorem clo_spread {p:Pr} (hc:checkP p=0) {B:List (List (Int×Int))} {R:List Nat} (h:Clo p B R) (hs:Seated (slotsF p.g) B):∀(n:Nat) (q:List Nat),q.length=p.M.length→Leq R q→(spreadF p.g p.W B n q).2=true∧Leq R (spreadF p.g p.W B n q).1
 |0,q,_,hl=>⟨rfl,hl⟩
 |n+1,q,hq,hl=>by
  have hc':checkP ⟨p.g,p.W,q⟩=0:=by rw[again_check hq];exact hc
  obtain⟨hn,ho⟩:=clo_nar hc h hq hl
  obtain⟨b1,b2⟩:=pass_clo B (narM ⟨p.g,p.W,q⟩) 0 (fun l hl=>⟨fun x hx=>ok_cell h.ok (hs l hl x hx),h.no l hl⟩) hn (by decide)
  simp only[spreadF]
  rw[if_pos ho,if_neg b1]
  split
  ·exact clo_spread hc h hs n _ (by rw[pass_len,narM_len _ hc'];exact hq) b2
  ·exact⟨rfl,b2⟩
theorem seats_pair {p:Pr} (hc:checkP p=0) {l:List (Int×Int)} (hl:l.any (oddP (seatsF p.g).1 (seatsF p.g).2)=false):∀x∈l,(0≤x.2∧x.2<64)∧0≤x.1∧seatedB (slotsF p.g) x.1.toNat=true:=by
 intro x hx
 have h1:=List.any_eq_false.1 hl x hx
 have h2:pairOk (seatsF p.g).1 (seatsF p.g).2 x=true:=by unfold oddP at h1;simpa using h1
 unfold pairOk at h2
 simp only[Bool.and_eq_true,Bool.or_eq_true,decide_eq_true_eq] at h2
 obtain⟨⟨a1,a2,a3,a4⟩,a5⟩:=h2
 obtain⟨s1,s2,s3,s4⟩:=seats_are (checkP_zero hc).1 a1
 have seat:∃d s k,Sits (slotsF p.g) d x.1 s k:=by
  by_cases hex:∃s k,Sits (slotsF p.g) false x.1 s k
  ·obtain⟨s,k,h⟩:=hex;exact⟨_,s,k,h⟩
  ·by_cases hex2:∃s k,Sits (slotsF p.g) true x.1 s k
   ·obtain⟨s,k,h⟩:=hex2;exact⟨_,s,k,h⟩
   ·have e1:=s1.2 (fun s k h=>hex ⟨s,k,h⟩)
    have e2:=s2.2 (fun s k h=>hex2 ⟨s,k,h⟩)
    unfold sAt at e1 e2
    have b:∀A:List (Int×Int),x.1.toNat<A.length→A.getD x.1.toNat (0,0)=A.getD x.1.toNat (-1,0):=fun A h=>by
     rw[List.getD_eq_getElem?_getD,List.getD_eq_getElem?_getD,List.getElem?_eq_getElem h];rfl
    rw[b _ (by omega),b _ (by omega),e1,e2] at a5
    simp at a5
 obtain⟨d,s,k,y,y1,y2,y3,y4⟩:=seat
 exact⟨⟨a3,by omega⟩,a1,seated_of (List.mem_of_getElem? y1) (by rw[←y4];exact getD_in y3)⟩
theorem take_get {α:Type} {B:List α} {j k:Nat} {d:α} (h:k< (B.take j).length):(B.take j)[k]=B.getD k d∧k<j∧k<B.length:=by
 rw[List.length_take] at h
 refine⟨?_,by omega,by omega⟩
 rw[List.getElem_take,List.getD_eq_getElem?_getD,List.getElem?_eq_getElem (by omega)];rfl
end Go.Proofs.YtnakmganodkliaaDoorAm
set_option maxRecDepth 100000
namespace Go.Proofs.YtnakmganodkliaaDoorAm
open Go
theorem d90R (A E:List (Int×Int)) (c y:Int) (hl:E.length=A.length):Con Tryd.prog 90 [] [.agg [.v (.int .i64 c),.v (.int .i64 y)],.rptr [slQ A],.rptr [slQ E]] (.v (.bool (oddP A E (c,y)))) [] []:=by
 refine con_vc (how:=[none]) (c:=r90) (K:=(KK r90)) spS (fun _=> []) (fun _=> []) 400 (.fork (.t (.t (.t .stop))) (.fork (.t (.t .stop)) (.fork (.t .stop) (.fork .stop (.fork .stop .stop))))) (V:=fun G R=>let yy0:=((Ty.int .i64).prod (Ty.int .i64));(decide (c< (0:Int))=true→true=true∧true=true∧true=true∧R (D.v (Value.bool true),[],[]))∧(decide (c< (0:Int))=false→(decide (c≥(↑A.length:Int))=true→true=true∧true=true∧R (D.v (Value.bool true),[],[]))∧(decide (c≥(↑A.length:Int))=false→(decide (y< (0:Int))=true→true=true∧R (D.v (Value.bool true),[],[]))∧(decide (y< (0:Int))=false→(decide (y>(63:Int))=true→R (D.v (Value.bool true),[],[]))∧(decide (y>(63:Int))=false→(0:Int)≤c∧c< (↑A.length:Int)∧(decide ((A.getD c.toNat yy0.dflt).fst< (0:Int))=true→(0:Int)≤c∧c< (↑E.length:Int)∧R (D.v (Value.bool (decide ((E.getD c.toNat yy0.dflt).fst< (0:Int)))),[],[]))∧(decide ((A.getD c.toNat yy0.dflt).fst< (0:Int))=false→R (D.v (Value.bool false),[],[]))))))) hmG Tryd.func90 (by kernel_rfl) (by kernel_rfl) (fun G R=>by kernel_rfl) ?_
 try dsimp only
 try dsimp only
 obtain⟨p,hp⟩:∃p,A.getD c.toNat (0,0)=p:=⟨_,rfl⟩
 obtain⟨e,he⟩:∃e,E.getD c.toNat (0,0)=e:=⟨_,rfl⟩
 simp only[Ty.dflt,hp,he]
 by_cases h:0≤c∧c<A.length∧0≤y∧y≤63
 ·have hd:decide (0≤c∧c< (A.length:Int)∧0≤y∧y≤63)=true:=decide_eq_true h
  obtain⟨b,hb⟩:∃b,oddP A E (c,y)=b:=⟨_,rfl⟩
  have hv:b= !(decide (0≤p.1)||decide (0≤e.1)):=by
   rw[←hb]
   simp only[oddP,pairOk,hp,he,hd,Bool.true_and]
  rw[hb]
  by_cases hp0:0≤p.1
  ·have e1:decide (p.1≥0)=true:=decide_eq_true hp0
   have e2:decide (p.1<0)=false:=decide_eq_false (by omega)
   have e3:decide (0≤p.1)=true:=decide_eq_true hp0
   rw[e3,Bool.true_or] at hv
   subst hv
   simp only[e1,e2]
   simp (disch:=omega) only[oo,oop,ne_eq,Ty.dflt,reduceCtorEq]
   repeat' (first|with_reducible refine And.intro ?_ ?_|intro _)
   all_goals first|rfl|omega|assumption|trivial|(exfalso;simp_all;done)|(exfalso;omega)|skip
  ·have e1:decide (p.1≥0)=false:=decide_eq_false hp0
   have e2:decide (p.1<0)=true:=decide_eq_true (by omega)
   have e3:decide (0≤p.1)=false:=decide_eq_false hp0
   rw[e3,Bool.false_or] at hv
   have e4:decide (e.1<0)= !decide (0≤e.1):=by
    by_cases q:0≤e.1
    ·rw[decide_eq_true q,decide_eq_false (by omega)]
     rfl
    ·rw[decide_eq_false q,decide_eq_true (by omega)]
     rfl
   subst hv
   simp only[e1,e2,e4,ge_iff_le]
   simp (disch:=omega) only[oo,oop,ne_eq,Ty.dflt,reduceCtorEq]
   repeat' (first|with_reducible refine And.intro ?_ ?_|intro _)
   all_goals first|rfl|omega|assumption|trivial|(exfalso;simp_all;done)|(exfalso;omega)|skip
 ·have hd:decide (0≤c∧c< (A.length:Int)∧0≤y∧y≤63)=false:=decide_eq_false h
  have hv:oddP A E (c,y)=true:=by
   simp only[oddP,pairOk,hd,Bool.false_and,Bool.not_false]
  rw[hv]
  by_cases h1:c<0
  ·have q:decide (c<0)=true:=decide_eq_true h1
   simp only[q]
   simp (disch:=omega) only[oo,oop,ne_eq,Ty.dflt,reduceCtorEq]
   repeat' (first|with_reducible refine And.intro ?_ ?_|intro _)
   all_goals first|rfl|omega|assumption|trivial|(exfalso;simp_all;done)|(exfalso;omega)|skip
  ·by_cases h2:c≥A.length
   ·have q:decide (c≥(A.length:Int))=true:=decide_eq_true h2
    simp only[q]
    simp (disch:=omega) only[oo,oop,ne_eq,Ty.dflt,reduceCtorEq]
    repeat' (first|with_reducible refine And.intro ?_ ?_|intro _)
    all_goals first|rfl|omega|assumption|trivial|(exfalso;simp_all;done)|(exfalso;omega)|skip
   ·by_cases h3:y<0
    ·have q:decide (y<0)=true:=decide_eq_true h3
     simp only[q]
     simp (disch:=omega) only[oo,oop,ne_eq,Ty.dflt,reduceCtorEq]
     repeat' (first|with_reducible refine And.intro ?_ ?_|intro _)
     all_goals first|rfl|omega|assumption|trivial|(exfalso;simp_all;done)|(exfalso;omega)|skip
    ·have q:decide (y>63)=true:=decide_eq_true (by omega)
     simp only[q]
     simp (disch:=omega) only[oo,oop,ne_eq,Ty.dflt,reduceCtorEq]
     repeat' (first|with_reducible refine And.intro ?_ ?_|intro _)
     all_goals first|rfl|omega|assumption|trivial|(exfalso;simp_all;done)|(exfalso;omega)|skip
def vq24 (A:List (Int×Int)) (E:List (Int×Int)) (L:List (Int×Int)) (k:Int) (G:Nat→St→Prop) (R:D×List (Option Row)×List Row→Prop):Prop:=let yy0:=((Ty.int .i64).prod (Ty.int .i64));let yy1:=(L.getD k.toNat yy0.dflt);(decide (k< (↑L.length:Int))=true→(0:Int)≤k∧k< (↑L.length:Int)∧Con Tryd.prog 90 [] [D.agg [D.v (Value.int .i64 yy1.fst),D.v (Value.int .i64 yy1.snd)],D.rptr [D.sl false false yy0 A],D.rptr [D.sl false false yy0 E]] (D.v (Value.bool (oddP A E (yy1.fst,yy1.snd)))) [] []∧Value.int .i64 yy1.fst=Value.int .i64 yy1.fst∧Value.int .i64 yy1.snd=Value.int .i64 yy1.snd∧A=A∧E=E∧(oddP A E (yy1.fst,yy1.snd)=true→R (D.v (Value.int .i64 k),[],[]))∧(oddP A E (yy1.fst,yy1.snd)=false→SameK (KK r121 0) (KK r121 0)∧G 0 (stOf 19 [0,1,6,7,8] [D.sl false false yy0 L,D.fn 90 [D.rptr [D.sl false false yy0 A],D.rptr [D.sl false false yy0 E]],D.sl false false yy0 L,D.v (Value.int .i64 (↑L.length:Int)),D.v (Value.int .i64 (IntKind.i64.wrap (k+(1:Int))))] [])))∧(decide (k< (↑L.length:Int))=false→R (D.v (Value.int .i64 (-1:Int)),[],[]))
theorem e121 (A E:List (Int×Int)) (L:List (Int×Int)) (hl:E.length=A.length) (hL:L.length≤8796093022208) (z:Nat):∀(k:Int),0≤k→k+z=L.length→∀r,r=findP (oddP A E) k (L.drop k.toNat)→GetsK Tryd.prog Tryd.f121.results.toList [none] (KK r121) 0 (.v (.int .i64 r),[],[]) 0 (stOf 19 [0,1,6,7,8] [slQ L,oddD A E,slQ L,.v (.int .i64 L.length),.v (.int .i64 k)] []):=by
 induction z with
 |zero=>
  intro k k0 hk r hr
  rw[List.drop_eq_nil_of_le (by omega)] at hr
  have hr:r= -1:=hr
  subst hr
  refine gets_vc spS (fun _=> [0,1,6,7,8]) (fun _=> []) 400 (.fork (.fork .stop (.hd 0)) .stop) (V:=vq24 A E L k) hmG (fun G R=>by kernel_rfl) ?_
  unfold vq24
  try dsimp only
  simp (disch:=omega) only[oo,oop,ne_eq,Ty.dflt,reduceCtorEq]
  repeat' (first|with_reducible refine And.intro ?_ ?_|intro _)
  all_goals first|rfl|omega|assumption|trivial|(exfalso;simp_all;done)|(exfalso;omega)|skip
 |succ z ih=>
  intro k k0 hk r hr
  have hk1:IntKind.i64.wrap (k+1)=k+1:=wrG (by omega) (by omega)
  rw[drop_at (xs:=L) (i:=k) (0,0) k0 (by omega)] at hr
  have h1:=ih (k+1) (by omega) (by omega) _ rfl
  obtain⟨a,ha⟩:∃a,L.getD k.toNat (0,0)=a:=⟨_,rfl⟩
  rw[ha] at hr
  have c1:=d90R A E a.1 a.2 hl
  have ea:((a.1,a.2):Int×Int)=a:=rfl
  rw[ea] at c1
  refine gets_vc spS (fun _=> [0,1,6,7,8]) (fun _=> []) 400 (.fork (.fork .stop (.hd 0)) .stop) (V:=vq24 A E L k) hmG (fun G R=>by kernel_rfl) ?_
  unfold vq24
  try dsimp only
  simp only[Ty.dflt,hk1,ha]
  rw[ea]
  by_cases hf:oddP A E a=true
  ·have hr:r=k:=by rw[hr];simp only[findP,hf,if_true]
   subst hr
   rw[hf] at c1
   simp only[hf]
   simp (disch:=omega) only[oo,oop,ne_eq,Ty.dflt,reduceCtorEq]
   repeat' (first|with_reducible refine And.intro ?_ ?_|intro _)
   all_goals first|rfl|omega|assumption|trivial|(exfalso;simp_all;done)|(exfalso;omega)|skip
  ·have hf':oddP A E a=false:=by simpa using hf
   have hr:r=findP (oddP A E) (k+1) (L.drop (k+1).toNat):=by rw[hr];simp only[findP,hf',Bool.false_eq_true,if_false]
   rw[←hr] at h1
   rw[hf'] at c1
   simp only[hf']
   simp (disch:=omega) only[oo,oop,ne_eq,Ty.dflt,reduceCtorEq]
   repeat' (first|with_reducible refine And.intro ?_ ?_|intro _)
   all_goals first|rfl|omega|assumption|trivial|(exfalso;simp_all;done)|(exfalso;omega)|skip
theorem d121R (A E:List (Int×Int)) (L:List (Int×Int)) (hl:E.length=A.length) (hL:L.length≤8796093022208):Con Tryd.prog 121 [] [slQ L,oddD A E] (.v (.int .i64 (findP (oddP A E) 0 L))) [] []:=by
 refine con_vc (how:=[none]) (c:=r121) (K:=(KK r121)) spS (fun _=> [0,1,6,7,8]) (fun _=> []) 400 (.hd 0) (V:=fun G R=>let yy0:=((Ty.int .i64).prod (Ty.int .i64));SameK (KK r121 0) (KK r121 0)∧G 0 (stOf 19 [0,1,6,7,8] [D.sl false false yy0 L,D.fn 90 [D.rptr [D.sl false false yy0 A],D.rptr [D.sl false false yy0 E]],D.sl false false yy0 L,D.v (Value.int .i64 (↑L.length:Int)),D.v (Value.int .i64 (0:Int))] [])) hmG Tryd.func121 (by kernel_rfl) (by kernel_rfl) (fun G R=>by kernel_rfl) ?_
 try dsimp only
 try dsimp only
 have hx:=e121 A E L hl hL L.length 0 (by omega) (by omega) _ rfl
 simp (disch:=omega) only[oo,oop,ne_eq,Ty.dflt,reduceCtorEq]
 repeat' (first|with_reducible refine And.intro ?_ ?_|intro _)
 all_goals first|rfl|omega|assumption|trivial|(exfalso;simp_all;done)|(exfalso;omega)|skip
theorem d91R (A E:List (Int×Int)) (L:List (Int×Int)) (hl:E.length=A.length) (hL:L.length≤8796093022208):Con Tryd.prog 91 [] [slQ L,oddD A E] (.v (.bool (L.any (oddP A E)))) [] []:=by
 refine con_vc (how:=[none]) (c:=r91) (K:=(KK r91)) spS (fun _=> []) (fun _=> []) 400 .stop (V:=fun G R=>let yy0:=((Ty.int .i64).prod (Ty.int .i64));Con Tryd.prog 121 [] [D.sl false false yy0 L,D.fn 90 [D.rptr [D.sl false false yy0 A],D.rptr [D.sl false false yy0 E]]] (D.v (Value.int .i64 (findP (oddP A E) (0:Int) L))) [] []∧L=L∧A=A∧E=E∧R (D.v (Value.bool (decide (findP (oddP A E) (0:Int) L≥(0:Int)))),[],[])) hmG Tryd.func91 (by kernel_rfl) (by kernel_rfl) (fun G R=>by kernel_rfl) ?_
 try dsimp only
 try dsimp only
 have c1:=d121R A E L hl hL
 have e1:=findP_any (oddP A E) L 0 (by omega)
 rw[e1]
 simp (disch:=omega) only[oo,oop,ne_eq,Ty.dflt,reduceCtorEq]
 repeat' (first|with_reducible refine And.intro ?_ ?_|intro _)
 all_goals first|rfl|omega|assumption|trivial|(exfalso;simp_all;done)|(exfalso;omega)|skip
end Go.Proofs.YtnakmganodkliaaDoorAm
set_option maxRecDepth 100000
namespace Go.Proofs.YtnakmganodkliaaDoorAm
open Go
theorem in_range {A E:List (Int×Int)} {l:List (Int×Int)} (h:l.any (oddP A E)=false):∀x∈l,0≤x.1∧x.1<A.length:=by
 intro x hx
 rw[List.any_eq_false] at h
 have h1:=h x hx
 have h2:pairOk A E x=true:=by
  unfold oddP at h1
  simpa using h1
 unfold pairOk at h2
 rw[Bool.and_eq_true,decide_eq_true_eq] at h2
 exact⟨h2.1.1,h2.1.2.1⟩
theorem take_odd {A E:List (Int×Int)} {B:List (List (Int×Int))} {i:Int} (i0:0≤i) (hi:i<B.length) (h:∀l∈B.take i.toNat,l.any (oddP A E)=false) (hl:(B.getD i.toNat []).any (oddP A E)=false):∀l∈B.take (i+1).toNat,l.any (oddP A E)=false:=by
 intro l hm
 rw[take_succ_at ([]:List (Int×Int)) B i0 (by omega),List.mem_append,List.mem_singleton] at hm
 rcases hm with hm|hm
 ·exact h l hm
 ·rw[hm];exact hl
def vq25 (g:Gr) (W:List (List Int)) (M:List Nat) (B:List (List (Int×Int))) (A:List (Int×Int)) (E:List (Int×Int)) (i:Int) (G:Nat→St→Prop) (R:D×List (Option Row)×List Row→Prop):Prop:=let yy0:=((Ty.int .i64).prod (Ty.int .i64));let yy1:=(spreadG (Pr.mk g W (Nt (Mi M))) (B.getD i.toNat yy0.sl.dflt) (List.take (i.toNat-0) (List.drop 0 B)));let yy2:=(Pr.mk g W (Nt (Mi M)));let yy3:=(↑B.length:Int);let yy4:=(oddP (List.take A.length (List.drop 0 A)) (List.take E.length (List.drop 0 E)));let yy5:=(B.getD i.toNat yy0.sl.dflt);let yy6:=((↑(List.length (B.getD (IntKind.i64.wrap (yy3-(1:Int))).toNat yy0.sl.dflt)):Int)>(0:Int));(decide (i<yy3)=true→(0:Int)≤i∧i<yy3∧Con Tryd.prog 91 [] [D.sl false false yy0 yy5,D.fn 90 [D.rptr [D.sl false false yy0 (List.take A.length (List.drop 0 A))],D.rptr [D.sl false false yy0 (List.take E.length (List.drop 0 E))]]] (D.v (Value.bool (List.any yy5 yy4))) [] []∧B.getD i.toNat yy0.sl.dflt=B.getD i.toNat yy0.sl.dflt∧List.take A.length (List.drop 0 A)=List.take A.length (List.drop 0 A)∧List.take E.length (List.drop 0 E)=List.take E.length (List.drop 0 E)∧(List.any yy5 yy4=true→R (D.tup [D.v (Value.int .i64 i),D.v (Value.int .i64 (150:Int))],[],[]))∧(List.any yy5 yy4=false→(0:Int)≤(0:Int)∧(0:Int)≤i∧i≤yy3∧Con Tryd.prog 92 [] [D.agg [D.v (Value.int .i64 yy2.g.h),D.v (Value.int .i64 yy2.g.w),D.sl false false Ty.bool yy2.g.B,D.sl false false Ty.bool yy2.g.R,D.sl false false Ty.bool yy2.g.L,D.sl false false (Ty.int .i64).sl yy2.W,D.sl false false (Ty.int .u64) (Mi yy2.M)],D.sl false false yy0 yy5,D.sl false false yy0.sl (List.take (i.toNat-0) (List.drop 0 B))] (D.tup [D.own 0 0 yy1.fst.length none,D.v (Value.bool yy1.snd)]) [] [Row.data 22 (Ty.int .u64) (Mi yy1.fst)]∧Value.int .i64 g.h=Value.int .i64 yy2.g.h∧Value.int .i64 g.w=Value.int .i64 yy2.g.w∧g.B=yy2.g.B∧g.R=yy2.g.R∧g.L=yy2.g.L∧W=yy2.W∧Mi M=Mi yy2.M∧B.getD i.toNat yy0.sl.dflt=B.getD i.toNat yy0.sl.dflt∧List.take (i.toNat-0) (List.drop 0 B)=List.take (i.toNat-0) (List.drop 0 B)∧(yy1.snd=true→R (D.tup [D.v (Value.int .i64 i),D.v (Value.int .i64 (151:Int))],[],[]))∧(yy1.snd=false→SameK (KK r55 0) (KK r55 0)∧G 0 (stOf 67 [1,2,9,29,30,31] [D.sl false false yy0.sl B,D.ptr 0 0 0,D.fn 90 [D.ptr 1 0 0,D.ptr 2 0 0],D.sl false false yy0.sl B,D.v (Value.int .i64 yy3),D.v (Value.int .i64 (IntKind.i64.wrap (i+(1:Int))))] [Slot.live (Row.box 73 [D.v (Value.int .i64 g.h),D.v (Value.int .i64 g.w),D.sl false false Ty.bool g.B,D.sl false false Ty.bool g.R,D.sl false false Ty.bool g.L,D.sl false false (Ty.int .i64).sl W,D.sl false false (Ty.int .u64) (Mi M)]),Slot.live (Row.box 55 [D.own 3 0 A.length none]),Slot.live (Row.box 55 [D.own 4 0 E.length none]),Slot.live (Row.data 61 yy0 A),Slot.live (Row.data 61 yy0 E)]))))∧(decide (i<yy3)=false→((yy3==(0:Int))=true→true=true∧R (D.tup [D.v (Value.int .i64 yy3),D.v (Value.int .i64 (151:Int))],[],[]))∧((yy3==(0:Int))=false→(0:Int)≤IntKind.i64.wrap (yy3-(1:Int))∧IntKind.i64.wrap (yy3-(1:Int))<yy3∧(decide yy6=true→R (D.tup [D.v (Value.int .i64 yy3),D.v (Value.int .i64 (151:Int))],[],[]))∧(decide yy6=false→R (D.tup [D.v (Value.int .i64 (0:Int)),D.v (Value.int .i64 (0:Int))],[],[]))))
theorem e55 (g:Gr) (W:List (List Int)) (M:List Nat) (B:List (List (Int×Int))) (A E:List (Int×Int)) (hc:checkP ⟨g,W,M⟩=0) (hM:Smalls M) (hA:A.length=M.length) (hE:E.length=A.length) (hBn:B.length≤65000) (hBl:∀l∈B,l.length≤8796093022208) (z:Nat):∀(i:Int),0≤i→i+z=B.length→(∀l∈B.take i.toNat,l.any (oddP A E)=false)→∀r,r=checkN ⟨g,W,M⟩ A E B z i→GetsK Tryd.prog Tryd.f55.results.toList [none,none] (KK r55) 0 (.tup [.v (.int .i64 r.1),.v (.int .i64 r.2)],[],[]) 0 (stOf 67 [1,2,9,29,30,31] [slBd B,.ptr 0 0 0,.fn 90 [.ptr 1 0 0,.ptr 2 0 0],slBd B,.v (.int .i64 B.length),.v (.int .i64 i)] [.live (.box 73 [.v (.int .i64 g.h),.v (.int .i64 g.w),.sl false false .bool g.B,.sl false false .bool g.R,.sl false false .bool g.L,slW W,slU M]),.live (.box 55 [.own 3 0 A.length none]),.live (.box 55 [.own 4 0 E.length none]),.live (.data 61 SeT A),.live (.data 61 SeT E)]):=by
 induction z with
 |zero=>
  intro i i0 hi ht r hr
  refine gets_vc spS (fun _=> [1,2,9,29,30,31]) (fun _=> []) 400 (.fork (.fork .stop (.fork .stop (.hd 0))) (.fork (.t .stop) (.fork .stop .stop))) (V:=vq25 g W M B A E i) hmG (fun G R=>by kernel_rfl) ?_
  unfold vq25
  try dsimp only
  simp only[checkN] at hr
  by_cases hb:B=[]
  ·rw[if_pos hb] at hr
   subst hr
   subst hb
   have w1:((([]:List (List (Int×Int))).length:Int)==0)=true:=rfl
   simp only[w1]
   simp (disch:=omega) only[oo,oop,ne_eq,Ty.dflt,reduceCtorEq]
   repeat' (first|with_reducible refine And.intro ?_ ?_|intro _)
   all_goals first|rfl|omega|assumption|trivial|(exfalso;simp_all;done)|(exfalso;omega)|skip
  ·rw[if_neg hb] at hr
   have hl0:B.length≠0:=fun e=>hb (List.length_eq_zero_iff.1 e)
   have w1:((B.length:Int)==0)=false:=by rw[beq_eq_false_iff_ne];omega
   have w2:IntKind.i64.wrap ((B.length:Int)-1)=(B.length:Int)-1:=wrG (by omega) (by omega)
   have w3:((B.length:Int)-1).toNat=B.length-1:=by omega
   obtain⟨l,hll⟩:∃l,B.getD (B.length-1) []=l:=⟨_,rfl⟩
   rw[hll] at hr
   simp only[w1,w2,w3,Ty.dflt,hll]
   by_cases hz:l.length>0
   ·rw[if_pos hz] at hr
    subst hr
    have w4:decide ((l.length:Int)>0)=true:=decide_eq_true (by omega)
    simp only[w4]
    simp (disch:=omega) only[oo,oop,ne_eq,Ty.dflt,reduceCtorEq]
    repeat' (first|with_reducible refine And.intro ?_ ?_|intro _)
    all_goals first|rfl|omega|assumption|trivial|(exfalso;simp_all;done)|(exfalso;omega)|skip
   ·rw[if_neg hz] at hr
    subst hr
    have w4:decide ((l.length:Int)>0)=false:=decide_eq_false (by omega)
    simp only[w4]
    simp (disch:=omega) only[oo,oop,ne_eq,Ty.dflt,reduceCtorEq]
    repeat' (first|with_reducible refine And.intro ?_ ?_|intro _)
    all_goals first|rfl|omega|assumption|trivial|(exfalso;simp_all;done)|(exfalso;omega)|skip
 |succ z ih=>
  intro i i0 hi ht r hr
  have hk1:IntKind.i64.wrap (i+1)=i+1:=wrG (by omega) (by omega)
  have hln:=hBl _ (getD_in (d:=([]:List (Int×Int))) (k:=i.toNat) (l:=B) (by omega))
  have hto:=take_odd (A:=A) (E:=E) (B:=B) (i:=i) i0 (by omega) ht
  simp only[checkN] at hr
  obtain⟨l,hll⟩:∃l,B.getD i.toNat []=l:=⟨_,rfl⟩
  rw[hll] at hr hln hto
  have c91:=d91R A E l hE hln
  refine gets_vc spS (fun _=> [1,2,9,29,30,31]) (fun _=> []) 400 (.fork (.fork .stop (.fork .stop (.hd 0))) (.fork (.t .stop) (.fork .stop .stop))) (V:=vq25 g W M B A E i) hmG (fun G R=>by kernel_rfl) ?_
  unfold vq25
  try dsimp only
  simp only[Ty.dflt,hk1,hll,Nt_Mi,List.drop_zero,List.take_length,Nat.sub_zero]
  by_cases ha:l.any (oddP A E)=true
  ·rw[if_pos ha] at hr
   subst hr
   rw[ha] at c91
   simp only[ha]
   simp (disch:=omega) only[oo,oop,ne_eq,Ty.dflt,reduceCtorEq]
   repeat' (first|with_reducible refine And.intro ?_ ?_|intro _)
   all_goals first|rfl|omega|assumption|trivial|(exfalso;simp_all;done)|(exfalso;omega)|skip
  ·have ha':l.any (oddP A E)=false:=by simpa using ha
   rw[if_neg ha] at hr
   rw[ha'] at c91
   have c92:=d92 g W M l (B.take i.toNat) hc hM hln (by rw[←hA];exact in_range ha') (by simp;omega) (fun l' h'=>⟨hBl l' (List.mem_of_mem_take h'),by rw[←hA];exact in_range (ht l' h')⟩)
   obtain⟨s,hs⟩:∃s,spreadG ⟨g,W,M⟩ l (B.take i.toNat)=s:=⟨_,rfl⟩
   rw[hs] at hr c92
   simp only[ha',hs]
   by_cases hs2:s.2=true
   ·rw[if_pos hs2] at hr
    subst hr
    rw[hs2] at c92
    simp only[hs2]
    simp (disch:=omega) only[oo,oop,ne_eq,Ty.dflt,reduceCtorEq]
    repeat' (first|with_reducible refine And.intro ?_ ?_|intro _)
    all_goals first|rfl|omega|assumption|trivial|(exfalso;simp_all;done)|(exfalso;omega)|skip
   ·have hs3:s.2=false:=by simpa using hs2
    rw[if_neg hs2] at hr
    have hg:=ih (i+1) (by omega) (by omega) (hto ha') r hr
    rw[hs3] at c92
    simp only[hs3]
    simp (disch:=omega) only[oo,oop,ne_eq,Ty.dflt,reduceCtorEq]
    repeat' (first|with_reducible refine And.intro ?_ ?_|intro _)
    all_goals first|rfl|omega|assumption|trivial|(exfalso;simp_all;done)|(exfalso;omega)|skip
theorem d55R (g:Gr) (W:List (List Int)) (M:List Nat) (B:List (List (Int×Int))) (hM:Smalls M) (hBl:∀l∈B,l.length≤8796093022208):Con Tryd.prog 55 [] [.agg [.v (.int .i64 g.h),.v (.int .i64 g.w),.sl false false .bool g.B,.sl false false .bool g.R,.sl false false .bool g.L,slW W,slU M],slBd B] (.tup [.v (.int .i64 (checkR ⟨g,W,M⟩ B).1),.v (.int .i64 (checkR ⟨g,W,M⟩ B).2)]) [] []:=by
 refine con_vc (how:=[none,none]) (c:=r55) (K:=(KK r55)) spS (fun _=> [1,2,9,29,30,31]) (fun _=> []) 400 (.fork .stop (.fork .stop (.hd 0))) (V:=fun G R=>let yy0:=(Pr.mk g W (Nt (Mi M)));let yy1:=((Ty.int .i64).prod (Ty.int .i64));Con Tryd.prog 89 [] [D.agg [D.v (Value.int .i64 yy0.g.h),D.v (Value.int .i64 yy0.g.w),D.sl false false Ty.bool yy0.g.B,D.sl false false Ty.bool yy0.g.R,D.sl false false Ty.bool yy0.g.L,D.sl false false (Ty.int .i64).sl yy0.W,D.sl false false (Ty.int .u64) (Mi yy0.M)]] (D.v (Value.int .i64 (checkP yy0))) [] []∧Value.int .i64 g.h=Value.int .i64 yy0.g.h∧Value.int .i64 g.w=Value.int .i64 yy0.g.w∧g.B=yy0.g.B∧g.R=yy0.g.R∧g.L=yy0.g.L∧W=yy0.W∧Mi M=Mi yy0.M∧((checkP yy0 !=(0:Int))=true→R (D.tup [D.v (Value.int .i64 (0:Int)),D.v (Value.int .i64 (checkP yy0))],[],[]))∧((checkP yy0 !=(0:Int))=false→(decide ((↑B.length:Int)>(65000:Int))=true→R (D.tup [D.v (Value.int .i64 (0:Int)),D.v (Value.int .i64 (2:Int))],[],[]))∧(decide ((↑B.length:Int)>(65000:Int))=false→Con Tryd.prog 40 [] [D.agg [D.v (Value.int .i64 g.h),D.v (Value.int .i64 g.w),D.sl false false Ty.bool g.B,D.sl false false Ty.bool g.R,D.sl false false Ty.bool g.L]] (D.tup [D.own 0 0 (seatsF g).fst.length none,D.own 1 0 (seatsF g).snd.length none]) [] [Row.data 61 yy1 (seatsF g).fst,Row.data 61 yy1 (seatsF g).snd]∧Value.int .i64 g.h=Value.int .i64 g.h∧Value.int .i64 g.w=Value.int .i64 g.w∧g.B=g.B∧g.R=g.R∧g.L=g.L∧SameK (KK r55 0) (KK r55 0)∧G 0 (stOf 67 [1,2,9,29,30,31] [D.sl false false yy1.sl B,D.ptr 0 0 0,D.fn 90 [D.ptr 1 0 0,D.ptr 2 0 0],D.sl false false yy1.sl B,D.v (Value.int .i64 (↑B.length:Int)),D.v (Value.int .i64 (0:Int))] [Slot.live (Row.box 73 [D.v (Value.int .i64 g.h),D.v (Value.int .i64 g.w),D.sl false false Ty.bool g.B,D.sl false false Ty.bool g.R,D.sl false false Ty.bool g.L,D.sl false false (Ty.int .i64).sl W,D.sl false false (Ty.int .u64) (Mi M)]),Slot.live (Row.box 55 [D.own 3 0 (seatsF g).fst.length none]),Slot.live (Row.box 55 [D.own 4 0 (seatsF g).snd.length none]),Slot.live (Row.data 61 yy1 (seatsF g).fst),Slot.live (Row.data 61 yy1 (seatsF g).snd)])))) hmG Tryd.func55 (by kernel_rfl) (by kernel_rfl) (fun G R=>by kernel_rfl) ?_
 try dsimp only
 try dsimp only
 have cc:=d62 g W M
 have cs:=d77 g
 obtain⟨r,hr⟩:∃r,checkR ⟨g,W,M⟩ B=r:=⟨_,rfl⟩
 rw[hr]
 simp only[Nt_Mi]
 unfold checkR at hr
 by_cases hc:checkP ⟨g,W,M⟩=0
 ·rw[if_pos hc] at hr
  have w0:(checkP ⟨g,W,M⟩ !=0)=false:=by rw[hc];rfl
  rw[hc] at cc
  by_cases hb:(B.length:Int)>65000
  ·rw[if_pos hb] at hr
   subst hr
   have w1:decide ((B.length:Int)>65000)=true:=decide_eq_true hb
   simp only[w0,w1,hc]
   simp (disch:=omega) only[oo,oop,ne_eq,Ty.dflt,reduceCtorEq]
   repeat' (first|with_reducible refine And.intro ?_ ?_|intro _)
   all_goals first|rfl|omega|assumption|trivial|(exfalso;simp_all;done)|(exfalso;omega)|skip
  ·rw[if_neg hb] at hr
   have w1:decide ((B.length:Int)>65000)=false:=decide_eq_false hb
   have hs:=(seats_are (g:=g) (checkP_zero hc).1 (c:=0) (by omega)).2.2
   have h4:=(checkP_zero hc).2.2.2
   simp only at h4
   have hg:=e55 g W M B (seatsF g).1 (seatsF g).2 hc hM (by omega) (by omega) (by omega) hBl B.length 0 (by omega) (by omega) (fun l hl=>by simp at hl) r hr.symm
   simp only[w0,w1,hc]
   simp (disch:=omega) only[oo,oop,ne_eq,Ty.dflt,reduceCtorEq]
   repeat' (first|with_reducible refine And.intro ?_ ?_|intro _)
   all_goals first|rfl|omega|assumption|trivial|(exfalso;simp_all;done)|(exfalso;omega)|skip
 ·rw[if_neg hc] at hr
  subst hr
  have w0:(checkP ⟨g,W,M⟩ !=0)=true:=by rw[bne_iff_ne];exact hc
  simp only[w0]
  simp (disch:=omega) only[oo,oop,ne_eq,Ty.dflt,reduceCtorEq]
  repeat' (first|with_reducible refine And.intro ?_ ?_|intro _)
  all_goals first|rfl|omega|assumption|trivial|(exfalso;simp_all;done)|(exfalso;omega)|skip
end Go.Proofs.YtnakmganodkliaaDoorAm
set_option maxRecDepth 100000
namespace Go.Proofs.YtnakmganodkliaaDoorAm
open Go
abbrev BT:Ty:= .sl SeT
def spT5:Sp:=fun f args rd=>match f,args with
 |54,[b]=>match slC rd BT [b] with
  |some B=>some {f:=54,args:=[slBd B],val:= .own 0 0 B.length none,allocs:=[.data 90 BT B],lent:=refsDs [b]}
  |none=>none
 |58,[a,b]=>match slC rd BT [a],slC rd BT [b] with
  |some A,some B=>some {f:=58,args:=[slBd A,slBd B],val:= .v (.bool (decide (A=B))),lent:=refsDs [a,b]}
  |_,_=>none
 |55,[.agg [.v (.int _ h),.v (.int _ w),b,r,l,ws,ms],bd]=>withP rd h w b r l ws ms fun p ls=>match slC rd BT [bd] with
  |some B=>some {f:=55,args:=[p.d,slBd B],val:= .tup [.v (.int .i64 (checkR p B).1),.v (.int .i64 (checkR p B).2)],lent:=ls++refsDs [bd]}
  |none=>none
 |56,[.agg [.v (.int _ h),.v (.int _ w),b,r,l,ws,ms],bd]=>withP rd h w b r l ws ms fun p ls=>match slC rd BT [bd] with
  |some B=>some {f:=56,args:=[p.d,slBd B],val:= .tup [.v (.int .i64 (checkR p B).1),.v (.int .i64 (checkR p B).2)],lent:=ls++refsDs [bd]}
  |none=>none
 |52,[]=>some {f:=52,args:=[],val:= .v (.bool true)}
 |f,args=>spS f args rd
noncomputable def r52:Code:=(Tryd.f52.body).getD .skip
end Go.Proofs.YtnakmganodkliaaDoorAm
namespace Go.Proofs.YtnakmganodkliaaDoorAm
open Go
def laidR (o:Option (List Int)):List Int×Bool:=match o with
 |some g=>(g,true)
 |none=>([],false)
def downN (M:List Nat) (V:List (List Int)) (S:List Slt) (F:List Int) (L:List (List Int)) (nd:Int):List (List Int)×Int:=downF M V S F (L,nd)
def spY:Sp:=fun f args rd=>match f,args with
 |148,[.agg [.v (.int _ h),.v (.int _ w),b,r,l,ws,ms],fx,.agg [.v (.int _ nu),.v (.bool dn),cs],x]=>withP rd h w b r l ws ms fun p ls=>match slC rd (.int .i64) [fx],slC rd (.int .i64) [cs],slC rd (.int .i64) [x] with
  |some F,some C,some X=>some {f:=148,args:=[p.d,slI F,.agg [.v (.int .i64 nu),.v (.bool dn),slI C],slI X],val:= .tup [.own 0 0 (laidR (wlayF p.M F C X F)).1.length none,.v (.bool (laidR (wlayF p.M F C X F)).2)],allocs:=[.data 3 (.int .i64) (laidR (wlayF p.M F C X F)).1],lent:=ls++refsDs [fx,cs,x]}
  |_,_,_=>none
 |134,[ws]=>match slC rd WT [ws] with
  |some W=>some {f:=134,args:=[slW W],val:= .own 0 0 (diffF [] W).length none,allocs:=[.data 27 WT (diffF [] W)]}
  |none=>none
 |133,[.agg [.v (.int _ h),.v (.int _ w),b,r,l,ws,ms],sl,vs,.v (.int _ k),fx,.own id _ _ _,.v (.int _ nd)]=>withP rd h w b r l ws ms fun p _=>match slC rd SlT [sl],slC rd WT [vs],slC rd (.int .i64) [fx],rd id with
  |some S,some V,some F,some (.data _ (.sl (.int .i64)) L)=>some {f:=133,pre:=[.data 27 WT L],args:=[p.d,slS S,slW V,.v (.int .i64 k),slI F,.own 0 0 (List.length L) none,.v (.int .i64 nd)],val:= .tup [.own 1 0 (downN p.M V (S.drop k.toNat) F L nd).1.length none,.v (.int .i64 (downN p.M V (S.drop k.toNat) F L nd).2)],post:=[none],allocs:=[.data 27 WT (downN p.M V (S.drop k.toNat) F L nd).1],cap:=[id],frz:=refsDs [fx]}
  |_,_,_,_=>none
 |133,[.agg [.v (.int _ h),.v (.int _ w),b,r,l,ws,ms],sl,vs,.v (.int _ k),fx,.v (.slice none 0 0),.v (.int _ nd)]=>withP rd h w b r l ws ms fun p _=>match slC rd SlT [sl],slC rd WT [vs],slC rd (.int .i64) [fx] with
  |some S,some V,some F=>some {f:=133,args:=[p.d,slS S,slW V,.v (.int .i64 k),slI F,.v (.slice none 0 0),.v (.int .i64 nd)],val:= .tup [.own 0 0 (downN p.M V (S.drop k.toNat) F [] nd).1.length none,.v (.int .i64 (downN p.M V (S.drop k.toNat) F [] nd).2)],allocs:=[.data 27 WT (downN p.M V (S.drop k.toNat) F [] nd).1],frz:=refsDs [vs,fx]}
  |_,_,_=>none
 |99,[.agg [.v (.int _ h),.v (.int _ w),b,r,l,ws,ms]]=>withP rd h w b r l ws ms fun p _=>some {f:=99,args:=[p.d],val:= .tup [.own 0 0 (smallF p).1.length none,.v (.int .i64 (smallF p).2)],allocs:=[.data 27 WT (smallF p).1]}
 |61,[.agg [.v (.int _ h),.v (.int _ w),b,r,l,ws,ms]]=>withP rd h w b r l ws ms fun p _=>some {f:=61,args:=[p.d],val:= .tup [.own 0 0 (smallF p).1.length none,.v (.bool (decide ((smallF p).2≤4000)))],allocs:=[.data 27 WT (smallF p).1]}
 |f,args=>spT5 f args rd
end Go.Proofs.YtnakmganodkliaaDoorAm
namespace Go.Proofs.YtnakmganodkliaaDoorAm
open Go
def tzI (m:Int):Int:=(listN m.toNat).headD 64
def nthN (m:Nat) (k:Int):Int:=if 0≤k∧k< ((listN m).length:Int) then(listN m).getD k.toNat 0 else-1
theorem wrap_mod (n:Int):IntKind.u64.wrap n=n%18446744073709551616:=by
 unfold IntKind.wrap
 simp[IntKind.bits,IntKind.signed]
theorem tab_all:((List.range 64).all fun t=>tab64.getD (2^t*285870213051353865%18446744073709551616/288230376151711744) 0==(t:Int))=true:=by decide+kernel
theorem tab_at {t:Nat} (h:t<64):tab64.getD (2^t*285870213051353865%18446744073709551616/288230376151711744) 0=(t:Int):=by
 have:=List.all_eq_true.1 tab_all t (List.mem_range.2 h)
 simpa using this
theorem tz_at {m:Nat} (hm:m<W64) (h0:m≠0) {p:Int} (hp:p=(IntKind.u64.wrap (IntKind.u64.wrap ((BitVec.ofInt 64 (m:Int)&&&BitVec.ofInt 64 (IntKind.u64.wrap (0-(m:Int)))).toNat:Int)*285870213051353865)).fdiv (2^58)):
  0≤p∧p<64∧tab64.getD p.toNat 0=tzI m:=by
 obtain⟨t,ht,hneg,hl⟩:=list_step h0 hm
 have e1:tzI (m:Int)=(t:Int):=by unfold tzI;rw[Int.toNat_natCast,hl];rfl
 have hm':m<18446744073709551616:=hm
 have w1:IntKind.u64.wrap (0-(m:Int))=((W64-m:Nat):Int):=by
  rw[wrap_mod]
  show _=((18446744073709551616-m:Nat):Int)
  omega
 have w2:=andU (a:=m) (b:=W64-m) hm (by show 18446744073709551616-m<18446744073709551616;omega)
 rw[hneg] at w2
 have w4:IntKind.u64.wrap (((2^t:Nat):Int)*285870213051353865)=((2^t*285870213051353865%18446744073709551616:Nat):Int):=by
  rw[wrap_mod]
  generalize 2^t=z
  omega
 have w5:∀z:Nat,Int.fdiv ((z:Nat):Int) (2^58)=((z/288230376151711744:Nat):Int):=by
  intro z
  rw[Int.fdiv_eq_ediv_of_nonneg _ (by decide)]
  omega
 rw[w1,w2,wrU' (u64_mask ht),w4,w5] at hp
 have htab:=tab_at ht
 have hq:2^t*285870213051353865%18446744073709551616/288230376151711744<64:=by
  generalize 2^t*285870213051353865=z
  omega
 subst hp
 rw[Int.toNat_natCast,e1]
 exact⟨Int.natCast_nonneg _,by omega,htab⟩
def vals (l:List Int):List (List Value):=l.map fun i=> [.int .i64 i]
def manyB (m:Nat):Bool:=m&&&(m-1) !=0
def findU:Int→List Nat→Int
 |_,[]=> -1
 |k,m::ms=>if manyB m then k else findU (k+1) ms
def lettersF (l:List Nat):List Int:=l.map fun m=>nthN m 0
abbrev RunS:=Int×List (List (Int×Int))×Bool
def kidsF (rec:List (Int×Int)→RunS→Int×RunS) (fx:List (Int×Int)) (c:Int):List Int→RunS→Int×RunS
 | [],s=>(0,(s.1,s.2.1++[fx],s.2.2))
 |i::is,s=>if(rec (fx++[(c,i)]) s).1=0 then kidsF rec fx c is (rec (fx++[(c,i)]) s).2 else rec (fx++[(c,i)]) s
def runB (p:Pr) (rec:List (Int×Int)→RunS→Int×RunS) (fx:List (Int×Int)) (s:RunS):Int×RunS:=
 if s.1+1>66000 then(2,(s.1+1,s.2)) else
 if(spreadG p fx s.2.1).2 then
  (if findU 0 (spreadG p fx s.2.1).1<0 then(1,(s.1+1,s.2.1,true))
   else kidsF rec fx (findU 0 (spreadG p fx s.2.1).1) (listN ((spreadG p fx s.2.1).1.getD (findU 0 (spreadG p fx s.2.1).1).toNat 0)) (s.1+1,s.2))
 else(0,(s.1+1,s.2.1++[fx],s.2.2))
def runF (p:Pr):Nat→List (Int×Int)→RunS→Int×RunS
 |0,_,s=>(2,(s.1+1,s.2))
 |n+1,fx,s=>runB p (runF p n) fx s
def runS (p:Pr) (fx:List (Int×Int)) (s:RunS):Int×RunS:=runF p (66000-s.1).toNat fx s
theorem kids_up {rec:List (Int×Int)→RunS→Int×RunS} (h:∀fx s,s.1< (rec fx s).2.1) {fx:List (Int×Int)} {c:Int}:∀(l:List Int) (s:RunS),s.1≤(kidsF rec fx c l s).2.1
 | [],s=>Int.le_refl _
 |i::l,s=>by
  simp only[kidsF]
  have h1:=h (fx++[(c,i)]) s
  split
  ·exact Int.le_trans (by omega) (kids_up h l _)
  ·omega
theorem run_up (p:Pr):∀(n:Nat) (fx:List (Int×Int)) (s:RunS),s.1< (runF p n fx s).2.1
 |0,fx,s=>by simp only[runF];omega
 |n+1,fx,s=>by
  simp only[runF,runB]
  split
  ·simp only;omega
  ·split
   ·split
    ·simp only;omega
    ·exact Int.lt_of_lt_of_le (by simp only;omega) (kids_up (run_up p n) _ _)
   ·simp only;omega
theorem kids_congr {rec rec':List (Int×Int)→RunS→Int×RunS} {z:Int} (hup:∀fx s,s.1< (rec fx s).2.1) (h:∀fx s,z≤s.1→rec fx s=rec' fx s) {fx:List (Int×Int)} {c:Int}:∀(l:List Int) (s:RunS),z≤s.1→kidsF rec fx c l s=kidsF rec' fx c l s
 | [],s,_=>rfl
 |i::l,s,hs=>by
  simp only[kidsF]
  rw[←h _ s hs]
  have:=hup (fx++[(c,i)]) s
  rw[kids_congr hup h l _ (by omega)]
theorem run_any (p:Pr):∀(n m:Nat) (fx:List (Int×Int)) (s:RunS),66000≤n+s.1→66000≤m+s.1→runF p n fx s=runF p m fx s
 |0,0,_,_,_,_=>rfl
 |0,m+1,fx,s,h,_=>by
  simp only[runF,runB]
  rw[if_pos (by omega)]
 |n+1,0,fx,s,_,h=>by
  simp only[runF,runB]
  rw[if_pos (by omega)]
 |n+1,m+1,fx,s,h1,h2=>by
  simp only[runF,runB]
  rw[kids_congr (z:=s.1+1) (run_up p n) (fun fx' s' h'=>run_any p n m fx' s' (by omega) (by omega)) _ (s.1+1,s.2) (by simp)]
theorem runS_eq (p:Pr) (fx:List (Int×Int)) (s:RunS):runS p fx s=runB p (runS p) fx s:=by
 unfold runS
 by_cases h:s.1+1>66000
 ·have e:(66000-s.1).toNat=0:=by omega
  rw[e]
  simp only[runF,runB]
  rw[if_pos h]
 ·obtain⟨n,hn⟩:∃n,(66000-s.1).toNat=n+1:=⟨(66000-s.1).toNat-1,by omega⟩
  rw[hn]
  simp only[runF,runB]
  rw[kids_congr (z:=s.1+1) (run_up p n) (fun fx' s' h'=>by
   show runF p n fx' s'=runF p (66000-s'.1).toNat fx' s'
   exact run_any p n _ fx' s' (by omega) (by omega)) _ (s.1+1,s.2) (by simp)]
theorem findU_at:∀(l:List Nat) (k:Int),0≤k→(findU k l= -1∧∀j,manyB (l.getD j 0)=false)∨∃j:Nat,findU k l=k+j∧j<l.length∧manyB (l.getD j 0)=true∧∀i,i<j→manyB (l.getD i 0)=false
 | [],k,_=> .inl ⟨rfl,fun j=>by simp[manyB]⟩
 |m::ms,k,hk=>by
  simp only[findU]
  split
  ·rename_i h
   exact .inr ⟨0,by omega,by simp,h,fun i hi=>by omega⟩
  ·rename_i h
   have h:manyB m=false:=by simpa using h
   rcases findU_at ms (k+1) (by omega) with⟨h1,h2⟩|⟨j,h1,h2,h3,h4⟩
   ·refine .inl ⟨h1,fun j=> ?_⟩
    cases j with
    |zero=>exact h
    |succ j=>exact h2 j
   ·refine .inr ⟨j+1,by rw[h1];omega,by simpa using h2,h3,fun i hi=> ?_⟩
    cases i with
    |zero=>exact h
    |succ i=>exact h4 i (by omega)
theorem spread_len {p:Pr} (hc:checkP p=0) (B:List (List (Int×Int))):∀(n:Nat) (q:List Nat),q.length=p.M.length→(spreadF p.g p.W B n q).1.length=p.M.length
 |0,q,h=>h
 |n+1,q,h=>by
  have hc':checkP ⟨p.g,p.W,q⟩=0:=by rw[again_check h];exact hc
  have e:=narM_len ⟨p.g,p.W,q⟩ hc'
  simp only at e
  simp only[spreadF]
  split
  ·split
   ·rw[pass_len,e,h]
   ·split
    ·exact spread_len hc B n _ (by rw[pass_len,e,h])
    ·rw[pass_len,e,h]
  ·rw[e,h]
theorem spreadG_len {p:Pr} (hc:checkP p=0) (G:List (Int×Int)) (B:List (List (Int×Int))):(spreadG p G B).1.length=p.M.length:=spread_len hc B _ _ (given_len _ _)
theorem pass_small:∀(B:List (List (Int×Int))) (m:List Nat) (st:Int),Smalls m→Smalls (passF B m st).1
 | [],m,st,h=>h
 |l::ls,m,st,h=>by
  rw[pass_cons]
  split
  ·exact h
  ·split
   ·exact pass_small ls _ _ (letgo_small h _)
   ·exact pass_small ls m st h
theorem spread_small {p:Pr} (hc:checkP p=0) (B:List (List (Int×Int))):∀(n:Nat) (q:List Nat),q.length=p.M.length→Smalls q→Smalls (spreadF p.g p.W B n q).1
 |0,q,_,h=>h
 |n+1,q,hq,h=>by
  have hc':checkP ⟨p.g,p.W,q⟩=0:=by rw[again_check hq];exact hc
  have e:=narM_len ⟨p.g,p.W,q⟩ hc'
  simp only at e
  have hn:Smalls (narM ⟨p.g,p.W,q⟩):=nar_small hc' h
  simp only[spreadF]
  split
  ·split
   ·exact pass_small _ _ _ hn
   ·split
    ·exact spread_small hc B n _ (by rw[pass_len,e,hq]) (pass_small _ _ _ hn)
    ·exact pass_small _ _ _ hn
  ·exact hn
theorem spreadG_small {g:Gr} {W:List (List Int)} {M:List Nat} (hc:checkP ⟨g,W,M⟩=0) (hM:Smalls M) (G:List (Int×Int)) (B:List (List (Int×Int))):Smalls (spreadG ⟨g,W,M⟩ G B).1:=spread_small hc B _ _ (given_len _ _) (given_small _ hM)
def FxOk (n:Nat) (k:Int) (l:List (Int×Int)):Prop:=(l.length:Int)≤k∧∀x∈l,0≤x.1∧x.1<n
structure RunOk (n:Nat) (s:RunS):Prop where
 pos:0≤s.1
 len:(s.2.1.length:Int)≤s.1
 each:∀l∈s.2.1,FxOk n 66001 l
structure RunTo (n:Nat) (s:RunS) (r:Int×RunS):Prop where
 ok:RunOk n r.2
 up:s.1<r.2.1
 top:r.2.1≤66001
 more:r.1=0→r.2.1≤66000
 how:r.1=0∨r.1=1∨r.1=2
 grow:(r.2.2.1.length:Int)+s.1≤s.2.1.length+r.2.1
structure KidsTo (n:Nat) (s:RunS) (r:Int×RunS):Prop where
 ok:RunOk n r.2
 up:s.1≤r.2.1
 top:r.2.1≤66001
 more:r.1=0→r.2.1≤66000
 how:r.1=0∨r.1=1∨r.1=2
 grow:(r.2.2.1.length:Int)+s.1≤s.2.1.length+1+r.2.1
theorem FxOk.snoc {n:Nat} {z:Int} {fx:List (Int×Int)} (hz:FxOk n z fx) {c:Int} (hc:0≤c∧c<n) (i:Int):FxOk n (z+1) (fx++[(c,i)]):=
 ⟨by have:=hz.1;simp only[List.length_append,List.length_cons,List.length_nil];omega,fun x hx=>by
  rcases List.mem_append.1 hx with hx|hx
  ·exact hz.2 x hx
  ·rw[List.mem_singleton.1 hx];exact hc⟩
theorem FxOk.mono {n:Nat} {z w:Int} {fx:List (Int×Int)} (hz:FxOk n z fx) (h:z≤w):FxOk n w fx:=⟨Int.le_trans hz.1 h,hz.2⟩
theorem kids_ok {n:Nat} {rec:List (Int×Int)→RunS→Int×RunS} {fx:List (Int×Int)} {c:Int} (hc:0≤c∧c<n) {z:Int} (hz:FxOk n z fx)
  (h:∀fx s,RunOk n s→s.1≤66000→FxOk n s.1 fx→RunTo n s (rec fx s)):∀(l:List Int) (s:RunS),RunOk n s→z<s.1→s.1≤66000→(s.2.1.length:Int)+1≤s.1→KidsTo n s (kidsF rec fx c l s)
 | [],s,hs,h1,h2,h3=>by
  simp only[kidsF]
  refine⟨⟨hs.pos,by simp only[List.length_append,List.length_cons,List.length_nil];omega,fun l hl=> ?_⟩,Int.le_refl _,by simp only;omega,fun _=>h2,.inl rfl,by simp only[List.length_append,List.length_cons,List.length_nil];omega⟩
  rcases List.mem_append.1 hl with hl|hl
  ·exact hs.each l hl
  ·rw[List.mem_singleton.1 hl]
   exact hz.mono (by omega)
 |i::l,s,hs,h1,h2,h3=>by
  have t:=h (fx++[(c,i)]) s hs h2 ((hz.snoc hc i).mono (by omega))
  have hup:=t.up
  have hgr:=t.grow
  simp only[kidsF]
  split
  ·rename_i h0
   have k:=kids_ok hc hz h l _ t.ok (by omega) (t.more h0) (by omega)
   have ku:=k.up
   have kg:=k.grow
   exact⟨k.ok,by omega,k.top,k.more,k.how,by omega⟩
  ·rename_i h0
   exact⟨t.ok,by omega,t.top,fun e=>absurd e h0,t.how,by omega⟩
theorem run_ok {p:Pr} (hc:checkP p=0):∀(k:Nat) (fx:List (Int×Int)) (s:RunS),RunOk p.M.length s→s.1≤66000→FxOk p.M.length s.1 fx→RunTo p.M.length s (runF p k fx s)
 |0,fx,s,hs,h1,h2=>by
  have hp:=hs.pos
  have hl:=hs.len
  simp only[runF]
  exact⟨⟨by simp only;omega,by simp only;omega,hs.each⟩,by simp only;omega,by simp only;omega,fun e=>absurd e (by simp),by simp,by simp only;omega⟩
 |k+1,fx,s,hs,h1,h2=>by
  have hp:=hs.pos
  have hl:=hs.len
  simp only[runF,runB]
  split
  ·exact⟨⟨by simp only;omega,by simp only;omega,hs.each⟩,by simp only;omega,by simp only;omega,fun e=>absurd e (by simp),by simp,by simp only;omega⟩
  ·split
   ·split
    ·exact⟨⟨by simp only;omega,by simp only;omega,hs.each⟩,by simp only;omega,by simp only;omega,fun e=>absurd e (by simp),by simp,by simp only;omega⟩
    ·rename_i hnf
     rcases findU_at (spreadG p fx s.2.1).1 0 (by omega) with⟨e,_⟩|⟨j,e,hj,_,_⟩
     ·omega
     ·rw[spreadG_len hc] at hj
      have q:=kids_ok (rec:=runF p k) (c:=findU 0 (spreadG p fx s.2.1).1) (by omega) h2 (run_ok hc k) (listN ((spreadG p fx s.2.1).1.getD (findU 0 (spreadG p fx s.2.1).1).toNat 0)) (s.1+1,s.2) ⟨by simp only;omega,by simp only;omega,hs.each⟩ (by simp only;omega) (by simp only;omega) (by simp only;omega)
      have qu:=q.up
      have qg:=q.grow
      simp only at qu qg
      exact⟨q.ok,by omega,q.top,q.more,q.how,by omega⟩
   ·refine⟨⟨by simp only;omega,by simp only[List.length_append,List.length_cons,List.length_nil];omega,fun l hl=> ?_⟩,by simp only;omega,by simp only;omega,fun _=>by simp only;omega,by simp,by simp only[List.length_append,List.length_cons,List.length_nil];omega⟩
    rcases List.mem_append.1 hl with hl|hl
    ·exact hs.each l hl
    ·rw[List.mem_singleton.1 hl]
     exact h2.mono (by omega)
theorem runS_ok {p:Pr} (hc:checkP p=0) (fx:List (Int×Int)) (s:RunS) (hs:RunOk p.M.length s) (h1:s.1≤66000) (h2:FxOk p.M.length s.1 fx):RunTo p.M.length s (runS p fx s):=run_ok hc _ fx s hs h1 h2
abbrev rowV (p:Pr) (q f:Nat) (n:Nat) (seen:Int):Row:= .box 129 [.fn 97 [.ptr q 0 0],.v (.bool true),.own f 0 n none,.v (.int .i64 p.g.h),.v (.int .i64 p.g.w),.sl false false .bool p.g.B,.sl false false .bool p.g.R,.sl false false .bool p.g.L,slW p.W,slU p.M,.v (.int .i64 seen)]
def spZ:Sp:=fun f args rd=>match f,args with
 |73,[.v (.int _ m)]=>some {f:=73,args:=[.v (.int .u64 m)],val:= .v (.int .i64 (tzI m))}
 |21,[.v (.int _ m)]=>some {f:=21,args:=[.v (.int .u64 m)],val:= .fn 72 [.rptr [.v (.int .u64 m)]]}
 |34,[.v (.int _ m),.v (.int _ k)]=>some {f:=34,args:=[.v (.int .u64 m),.v (.int .i64 k)],val:= .v (.int .i64 (nthN m.toNat k))}
 |130,[.v (.int _ m)]=>some {f:=130,args:=[.v (.int .u64 m)],val:= .v (.bool (manyB m.toNat))}
 |129,[l,.fn 130 []]=>match slC rd (.int .u64) [l] with
  |some M=>some {f:=129,args:=[slU (Nt M),.fn 130 []],val:= .v (.int .i64 (findU 0 (Nt M))),lent:=refsDs [l]}
  |none=>none
 |131,[l]=>match slC rd (.int .u64) [l] with
  |some M=>some {f:=131,args:=[slU (Nt M)],val:= .own 0 0 (lettersF (Nt M)).length (some (lettersF (Nt M)).length),allocs:=[.data 3 (.int .i64) (lettersF (Nt M))],lent:=refsDs [l]}
  |none=>none
 |132,[.sl false false t L]=>match slC rd SeT [.sl false false t L] with
  |some X=>some {f:=132,args:=[slQ X],val:= .sl false true SeT X}
  |none=>none
 |147,[l]=>match slC rd SeT [l] with
  |some X=>some {f:=147,args:=[slQ X],val:= .own 0 0 X.length none,allocs:=[.data 92 SeT X],lent:=refsDs [l]}
  |none=>none
 |97,[x,.ptr q _ _]=>match slC rd (.int .i64) [x],rd q with
  |some X,some (.box _ [.v (.bool b)])=>some {f:=97,pre:=[.box 4 [.v (.bool b)]],args:=[slI X,.ptr 0 0 0],val:= .v (.bool false),post:=[some (.box 4 [.v (.bool true)])],cap:=[q],frz:=refsDs [x]}
  |_,_=>none
 |128,[.ptr s _ _,x]=>match slC rd SeT [x],rd s with
  |some X,some (.box _ [.fn 97 [.ptr q _ _],.v (.bool true),.own f _ _ _,.v (.int _ h),.v (.int _ w),b,r,l,ws,ms,.v (.int _ seen)])=>withP rd h w b r l ws ms fun p _=>match rd f,rd q with
   |some (.data _ (.sl (.prod (.int .i64) (.int .i64))) F),some (.box _ [.v (.bool fb)])=>some {f:=128,pre:=[rowV p 2 1 (List.length F) seen,.data 90 BT F,.box 4 [.v (.bool fb)]],args:=[.ptr 0 0 0,slQ X],val:= .tup [],post:=[some (rowV p 2 3 (List.length F+1) seen),none,some (.box 4 [.v (.bool fb)])],allocs:=[.data 90 BT (F++[X])],cap:=[s,f,q]}
   |_,_=>none
  |_,_=>none
 |127,[x,.ptr a _ _,.ptr d _ _]=>match slC rd SeT [x],rd a,rd d with
  |some X,some (.box _ [.ptr s _ _]),some (.box _ [.fn 127 [.ptr _ _ _,.ptr _ _ _]])=>(match rd s with
   |some (.box _ [.fn 97 [.ptr q _ _],.v (.bool true),.own f _ _ _,.v (.int _ h),.v (.int _ w),b,r,l,ws,ms,.v (.int _ seen)])=>withP rd h w b r l ws ms fun p _=>match rd f,rd q with
    |some (.data _ (.sl (.prod (.int .i64) (.int .i64))) F),some (.box _ [.v (.bool fb)])=>some {f:=127,pre:=[.box 125 [.ptr 2 0 0],.box 159 [.fn 127 [.ptr 0 0 0,.ptr 1 0 0]],rowV p 4 3 (List.length F) seen,.data 90 BT F,.box 4 [.v (.bool fb)]],args:=[slQ X,.ptr 0 0 0,.ptr 1 0 0],val:= .v (.int .i64 (runS p X (seen,F,fb)).1),post:=[some (.box 125 [.ptr 2 0 0]),some (.box 159 [.fn 127 [.ptr 0 0 0,.ptr 1 0 0]]),some (rowV p 4 5 (runS p X (seen,F,fb)).2.2.1.length (runS p X (seen,F,fb)).2.1),none,some (.box 4 [.v (.bool (runS p X (seen,F,fb)).2.2.2)])],allocs:=[.data 90 BT (runS p X (seen,F,fb)).2.2.1],cap:=[a,d,s,f,q],frz:=refsDs [x]}
    |_,_=>none
   |_=>none)
  |_,_,_=>none
 |98,[.ptr s _ _]=>match rd s with
  |some (.box _ [.fn 97 [.ptr q _ _],.v (.bool true),.own f _ _ _,.v (.int _ h),.v (.int _ w),b,r,l,ws,ms,.v (.int _ seen)])=>withP rd h w b r l ws ms fun p _=>match rd f,rd q with
   |some (.data _ (.sl (.prod (.int .i64) (.int .i64))) F),some (.box _ [.v (.bool fb)])=>some {f:=98,pre:=[rowV p 2 1 (List.length F) seen,.data 90 BT F,.box 4 [.v (.bool fb)]],args:=[.ptr 0 0 0],val:= .v (.bool ((runS p [] (seen,F,fb)).1 !=2)),post:=[some (rowV p 2 3 (runS p [] (seen,F,fb)).2.2.1.length (runS p [] (seen,F,fb)).2.1),none,some (.box 4 [.v (.bool (runS p [] (seen,F,fb)).2.2.2)])],allocs:=[.data 90 BT (runS p [] (seen,F,fb)).2.2.1],cap:=[s,f,q]}
   |_,_=>none
  |_=>none
 |f,args=>if f=1000002 then(match args with
  | [.sl _ true _ _,_]=>some {f:=0,args:=[],val:= .top}
  |_=>none) else spY f args rd
noncomputable def u73:Code:=(Tryd.f73.body).getD .skip
noncomputable def u72:Code:=(Tryd.f72.body).getD .skip
noncomputable def u21:Code:=(Tryd.f21.body).getD .skip
noncomputable def u34:Code:=(Tryd.f34.body).getD .skip
noncomputable def u130:Code:=(Tryd.f130.body).getD .skip
noncomputable def u129:Code:=(Tryd.f129.body).getD .skip
noncomputable def u131:Code:=(Tryd.f131.body).getD .skip
noncomputable def u132:Code:=(Tryd.f132.body).getD .skip
noncomputable def u147:Code:=(Tryd.f147.body).getD .skip
noncomputable def u97:Code:=(Tryd.f97.body).getD .skip
noncomputable def u128:Code:=(Tryd.f128.body).getD .skip
noncomputable def u127:Code:=(Tryd.f127.body).getD .skip
noncomputable def u98:Code:=(Tryd.f98.body).getD .skip
noncomputable def u96:Code:=(Tryd.f96.body).getD .skip
noncomputable def u59:Code:=(Tryd.f59.body).getD .skip
noncomputable def u15:Code:=(Tryd.f15.body).getD .skip
end Go.Proofs.YtnakmganodkliaaDoorAm
set_option maxRecDepth 100000
namespace Go.Proofs.YtnakmganodkliaaDoorAm
open Go
theorem room90U {n:Nat} (h:n≤5864062014805):roomy Tryd.prog 90 n:=by
 unfold roomy
 rw[show Tryd.prog.bytesOf 90=24 by kernel_rfl]
 omega
theorem con_nn2 {P:Program} {f:FuncId} {pre:List Row} {t:Ty} {xs:List t.El} {val:D} {post:List (Option Row)} {allocs:List Row} (h:Con P f pre [.sl true false t xs] val post allocs) (h0:xs=[]→Con P f pre [.v (.slice none 0 0)] val post allocs):Con P f pre [.sl false false t xs] val post allocs:=by
 refine⟨h.fn,fun w ρ S vs M hargs=> ?_⟩
 have hargs':=hargs
 simp only[RelDs,RelD] at hargs'
 obtain⟨u,us',e,⟨A,c,us,e2,h1,h2,h3,h4,h5,h6⟩,hr⟩:=hargs'
 cases hA:A with
 |some a=>
  refine h.run w ρ S vs M ?_
  simp only[RelDs,RelD]
  exact⟨u,us',e,⟨A,c,us,e2,h1,h2,fun _ e=>(by rw[hA] at e;cases e),h4,h5,h6⟩,hr⟩
 |none=>
  have hc:=h2 hA
  have hx:xs=[]:=List.eq_nil_of_length_eq_zero (by omega)
  refine(h0 hx).run w ρ S vs M ?_
  simp only[RelDs,RelD]
  refine⟨u,us',e,?_,hr⟩
  rw[e2,hA,hc,hx]
  rfl
theorem d73U (m:Nat) (hm:m<W64) (h0:m≠0):Con Tryd.prog 73 [] [u64 m] ((.v (.int .i64 (tzI m)))) [] []:=by
 refine con_vc (how:=[none]) (c:=u73) (K:=(KK u73)) spZ (fun _=> []) (fun _=> []) 400 (.fork .stop .stop) (V:=fun G R=>let yy0:=(IntKind.u64.wrap (IntKind.u64.wrap (↑(BitVec.ofInt 64 (↑m:Int)&&&BitVec.ofInt 64 (IntKind.u64.wrap ((0:Int)-(↑m:Int)))).toNat:Int)*(285870213051353865:Int)));(((↑m:Int)==(0:Int))=true→R (D.v (Value.int .i64 (64:Int)),[],[]))∧(((↑m:Int)==(0:Int))=false→¬(58:Int)< (0:Int)∧(0:Int)≤yy0.fdiv ((2:Int)^58)∧yy0.fdiv ((2:Int)^58)< (↑64:Int)∧R (D.v (Value.int .i64 (IntKind.i64.wrap ([(0:Int),(1:Int),(56:Int),(2:Int),(57:Int),(49:Int),(28:Int),(3:Int),(61:Int),(58:Int),(42:Int),(50:Int),(38:Int),(29:Int),(17:Int),(4:Int),(62:Int),(47:Int),(59:Int),(36:Int),(45:Int),(43:Int),(51:Int),(22:Int),(53:Int),(39:Int),(33:Int),(30:Int),(24:Int),(18:Int),(12:Int),(5:Int),(63:Int),(55:Int),(48:Int),(27:Int),(60:Int),(41:Int),(37:Int),(16:Int),(46:Int),(35:Int),(44:Int),(21:Int),(52:Int),(32:Int),(23:Int),(11:Int),(54:Int),(26:Int),(40:Int),(15:Int),(34:Int),(20:Int),(31:Int),(10:Int),(25:Int),(14:Int),(19:Int),(9:Int),(13:Int),(8:Int),(7:Int),(6:Int)].getD (yy0.fdiv ((2:Int)^58)).toNat (0:Int)))),[],[]))) hmG Tryd.func73 (by kernel_rfl) (by kernel_rfl) (fun G R=>by kernel_rfl) ?_
 try dsimp only
 try dsimp only
 have hz:=fun p hp=>tz_at hm h0 (p:=p) hp
 refine⟨fun h=> ?_,fun _=>⟨by omega,(hz _ rfl).1,(hz _ rfl).2.1,?_⟩⟩
 ·rw[beq_iff_eq] at h;omega
 ·have h3:=(hz _ rfl).2.2
  have hb:0≤tzI m∧tzI m≤64:=by
   obtain⟨t,ht,_,hl⟩:=list_step h0 hm
   unfold tzI
   rw[Int.toNat_natCast,hl]
   show 0≤(t:Int)∧(t:Int)≤64
   omega
  show(D.v (.int .i64 (IntKind.i64.wrap (tab64.getD _ 0))),_,_)=_
  rw[h3,wrG (by omega) (by omega)]
theorem d21Ur (m:Nat):Con Tryd.prog 21 [] [u64 m] ((.fn 72 [.ptr 0 0 0])) [] [.box 22 [u64 m]]:=by
 refine con_vc (how:=[none]) (c:=u21) (K:=(KK u21)) spZ (fun _=> []) (fun _=> []) 400 .stop (V:=fun G R=>R (D.fn 72 [D.ptr 0 0 0],[],[Row.box 22 [D.v (Value.int .u64 (↑m:Int))]])) hmG Tryd.func21 (by kernel_rfl) (by kernel_rfl) (fun G R=>by kernel_rfl) ?_
 try dsimp only
 rfl
theorem d21U (m:Nat):Con Tryd.prog 21 [] [u64 m] (.fn 72 [.rptr [u64 m]]) [] []:=con_frz (cs:=[.int .u64 m]) (d21Ur m)
theorem it72 (m:Nat) (hm:m<W64):IterP Tryd.prog 72 [.rptr [u64 m]] (vals (listN m)):=by
 refine iter_of Tryd.func72 (by kernel_rfl) (c:=u72) (by kernel_rfl) (by kernel_rfl) ?_
 intro l J Jx hJU hJg hJxg hY
 have hlen:(vals (listN m)).length=(listN m).length:=by unfold vals;rw[List.length_map]
 rw[hlen]
 have loop:∀(n i r:Nat),r<W64→(listN r).length=n→i+n=(listN m).length→(∀j:Nat,(listN m)[i+j]? =(listN r)[j]?)→Goes Tryd.prog (itGoal Tryd.prog J Jx (listN m).length i) 0 (KX u72 0) (stOf 16 [0,1,3] [.v (.func (.yield l) #[] #[]),.rptr [u64 m],.v (.int .u64 (r:Int))] []):=by
  intro n
  induction n with
  |zero=>
   intro i r hr hn hi hx
   have h0:r=0:=by
    by_cases h:r=0
    ·exact h
    ·obtain⟨t,_,_,hl⟩:=list_step h hr
     rw[hl] at hn
     simp at hn
   refine it_vc (K:=(KX u72)) spZ (fun k=>if k=0 then [0,1,3] else [0,1,3]) (fun _=> []) 400 (.fork (.cut 202) .stop) (V:=fun G E=>(((↑r:Int) !=(0:Int))=true→SameK (KX u72 202) (KX u72 202)∧G 202 (stOf 16 [0,1,3] [D.v (Value.func (Fn.yield l) (Array.mk []) (Array.mk [])),D.rptr [D.v (Value.int .u64 (↑m:Int))],D.v (Value.int .u64 (↑r:Int))] []))∧(((↑r:Int) !=(0:Int))=false→E none (St.mk [D.v (Value.func (Fn.yield l) (Array.mk []) (Array.mk [])),D.rptr [D.v (Value.int .u64 (↑m:Int))],D.top,D.v (Value.int .u64 (↑r:Int)),D.top,D.v (Value.int .u64 (↑r:Int)),D.v (Value.bool ((↑r:Int) !=(0:Int))),D.top,D.top,D.top,D.top,D.top,D.top,D.top,D.top,D.top] []))) hmG (hJg) (fun G E=>by kernel_rfl) ?_
   subst h0
   refine⟨fun h=>by simp at h,fun _=> ?_⟩
   show i=(listN m).length
   omega
  |succ n ih=>
   intro i r hr hn hi hx
   have h0:r≠0:=by
    rintro rfl
    rw[list_zero] at hn
    simp at hn
   obtain⟨t,ht,hneg,hl⟩:=list_step h0 hr
   refine it_vc (K:=(KX u72)) spZ (fun k=>if k=0 then [0,1,3] else [0,1,3]) (fun _=> []) 400 (.fork (.cut 202) .stop) (V:=fun G E=>(((↑r:Int) !=(0:Int))=true→SameK (KX u72 202) (KX u72 202)∧G 202 (stOf 16 [0,1,3] [D.v (Value.func (Fn.yield l) (Array.mk []) (Array.mk [])),D.rptr [D.v (Value.int .u64 (↑m:Int))],D.v (Value.int .u64 (↑r:Int))] []))∧(((↑r:Int) !=(0:Int))=false→E none (St.mk [D.v (Value.func (Fn.yield l) (Array.mk []) (Array.mk [])),D.rptr [D.v (Value.int .u64 (↑m:Int))],D.top,D.v (Value.int .u64 (↑r:Int)),D.top,D.v (Value.int .u64 (↑r:Int)),D.v (Value.bool ((↑r:Int) !=(0:Int))),D.top,D.top,D.top,D.top,D.top,D.top,D.top,D.top,D.top] []))) hmG (hJg) (fun G E=>by kernel_rfl) ?_
   refine⟨fun _=>⟨SameK.same _,?_⟩,fun h=>by simp at h;omega⟩
   show Goes Tryd.prog (itGoal Tryd.prog J Jx (listN m).length i) 0 (RR u72 2) _
   have hxt:(vals (listN m))[i]? =some [.int .i64 (t:Int)]:=by
    have:=hx 0
    rw[Nat.add_zero,hl] at this
    unfold vals
    rw[List.getElem?_map,this]
    rfl
   refine it_round_vc spZ (fun k=>if k=0 then [0,1,3] else [0,1,3]) (fun _=> []) 400 3 (.f (.hd 0)) (.t .stop) (V:=fun G E G' E'=>Con Tryd.prog 73 [] [D.v (Value.int .u64 (↑r:Int))] (D.v (Value.int .i64 (tzI (↑r:Int)))) [] []∧Value.int .u64 (↑r:Int)=Value.int .u64 (↑r:Int)∧D.v (Value.func (Fn.yield l) (Array.mk []) (Array.mk []))=D.v (Value.func (Fn.yield l) (Array.mk []) (Array.mk []))∧[D.v (Value.int .i64 (tzI (↑r:Int)))]=[D.v (Value.int .i64 (↑t:Int))]∧((!true)=false∧SameK (KX u72 0) (KX u72 0)∧G 0 (stOf 16 [0,1,3] [D.v (Value.func (Fn.yield l) (Array.mk []) (Array.mk [])),D.rptr [D.v (Value.int .u64 (↑m:Int))],D.v (Value.int .u64 (IntKind.u64.wrap (↑(BitVec.ofInt 64 (↑r:Int)&&&BitVec.ofInt 64 (IntKind.u64.wrap ((↑r:Int)-(1:Int)))).toNat:Int)))] []))∧(!false)=true∧E' (some Code.ret) (St.mk [D.v (Value.func (Fn.yield l) (Array.mk []) (Array.mk [])),D.rptr [D.v (Value.int .u64 (↑m:Int))],D.top,D.v (Value.int .u64 (↑r:Int)),D.top,D.top,D.top,D.top,D.top,D.top,D.top,D.v (Value.func (Fn.yield l) (Array.mk []) (Array.mk [])),D.v (Value.int .u64 (↑r:Int)),D.v (Value.int .i64 (tzI (↑r:Int))),D.v (Value.bool false),D.v (Value.bool !false)] [Slot.free,Slot.free,Slot.free,Slot.free,Slot.free,Slot.free,Slot.free,Slot.free,Slot.free,Slot.free,Slot.free,Slot.free,Slot.free,Slot.free,Slot.free,Slot.free])) hmG hJU hJg hJxg hY hxt ⟨3,by kernel_rfl⟩ (fun G E G' E'=>by kernel_rfl) ?_
   have c:=d73U r hr h0
   have e1:tzI (r:Int)=(t:Int):=by unfold tzI;rw[Int.toNat_natCast,hl];rfl
   have hr':r<18446744073709551616:=hr
   have w1:IntKind.u64.wrap ((r:Int)-1)=((r-1:Nat):Int):=by
    have e:(r:Int)-1=((r-1:Nat):Int):=by omega
    rw[e]
    exact wrU' (Nat.lt_of_le_of_lt (Nat.sub_le _ _) hr)
   have w2:=andU (a:=r) (b:=r-1) hr (Nat.lt_of_le_of_lt (Nat.sub_le _ _) hr)
   have w3:IntKind.u64.wrap ((r&&&(r-1):Nat):Int)=((r&&&(r-1):Nat):Int):=wrU' (and_lt hr)
   rw[hl] at hn
   have hgo:=ih (i+1) (r&&&(r-1)) (and_lt hr) (by simpa using hn) (by omega) (fun j=>by
    have:=hx (j+1)
    rw[hl,List.getElem?_cons_succ] at this
    rw[←this]
    congr 1
    omega)
   rw[w1,w2,w3,e1]
   rw[e1] at c
   simp only[sameK_iff,Bool.not_true,Bool.not_false,true_and,and_true]
   exact⟨c,hgo,trivial⟩
 refine it_vc (K:=(KX u72)) spZ (fun k=>if k=0 then [0,1,3] else [0,1,3]) (fun _=> []) 400 (.hd 0) (V:=fun G E=>SameK (KX u72 0) (KX u72 0)∧G 0 (stOf 16 [0,1,3] [D.v (Value.func (Fn.yield l) (Array.mk []) (Array.mk [])),D.rptr [D.v (Value.int .u64 (↑m:Int))],D.v (Value.int .u64 (↑m:Int))] [])) hmG (hJg) (fun G E=>by kernel_rfl) ?_
 exact⟨SameK.same _,loop _ 0 m hm rfl (by omega) (fun j=>by rw[Nat.zero_add])⟩
theorem r34 (m:Nat) (k:Int) (hk: -9223372036854775808≤k∧k<9223372036854775808):∀(zs ys:List Int),ys++zs=listN m→(k<0∨(ys.length:Int)≤k)→RndsK Tryd.prog u34 Tryd.f34.results.toList [none] 0 (.v (.int .i64 (nthN m k)),[],[]) 0 (vals zs) (stOf 14 [3,4,7] [.ptr 0 0 0,.ptr 1 0 0,.fn 72 [.rptr [u64 m]]] [.live (.box 3 [.v (.int .i64 (IntKind.i64.wrap (k-(ys.length:Int))))]),.live (.box 3 [.v (.int .i64 0)])]):=by
 intro zs
 induction zs with
 |nil=>
  intro ys h hn
  refine rndsK_nil (by decide) ?_
  refine gets_vc spZ (fun _=> []) (fun _=> []) 400 .stop (V:=fun G R=>R (D.v (Value.int .i64 (-1:Int)),[],[])) hmG (fun G R=>by kernel_rfl) ?_
  have e:nthN m k= -1:=by
   unfold nthN
   rw[List.append_nil] at h
   rw[if_neg]
   rw[←h]
   omega
  show _=_
  rw[e]
 |cons z zs ih=>
  intro ys h hn
  have hl:ys.length<64:=by have:=list_len m;rw[←h] at this;simp at this;omega
  have hw:∃n,n=IntKind.i64.wrap (k-(ys.length:Int))∧(n=0↔k=ys.length)∧IntKind.i64.wrap (n-1)=IntKind.i64.wrap (k-((ys.length+1:Nat):Int)):=by
   refine⟨_,rfl,?_,?_⟩
   ·rw[IntKind.wrap_i64]
    omega
   ·rw[IntKind.wrap_i64,IntKind.wrap_i64,IntKind.wrap_i64]
    omega
  obtain⟨n,h1,h2,h3⟩:=hw
  rw[←h1]
  refine rndsK_cons spZ [3,4,5] (fun _=> [3,4,7]) (fun _=> []) 400 (.fork .stop .stop) (V:=fun GN GJ=>SameK [Item.beginRound,Item.code (rfB (FF u34 0))] [Item.beginRound,Item.code (rfB (FF u34 0))]∧((n==(0:Int))=true→GJ Code.ret (stOf 14 [3,4,7] [D.ptr 0 0 0,D.ptr 1 0 0,D.fn 72 [D.rptr [D.v (Value.int .u64 (↑m:Int))]]] [Slot.live (Row.box 3 [D.v (Value.int .i64 n)]),Slot.live (Row.box 3 [D.v (Value.int .i64 z)])]))∧((n==(0:Int))=false→GN (stOf 14 [3,4,7] [D.ptr 0 0 0,D.ptr 1 0 0,D.fn 72 [D.rptr [D.v (Value.int .u64 (↑m:Int))]]] [Slot.live (Row.box 3 [D.v (Value.int .i64 (IntKind.i64.wrap (n-(1:Int))))]),Slot.live (Row.box 3 [D.v (Value.int .i64 (0:Int))])]))) hmG (by decide) (by rfl) (fun GN GJ=>by kernel_rfl) ?_
  refine⟨SameK.same _,fun h4=> ?_,fun h4=> ?_⟩
  ·rw[beq_iff_eq] at h4
   have h5:=h2.1 h4
   refine gets_vc spZ (fun _=> []) (fun _=> []) 400 .stop (V:=fun G R=>R (D.v (Value.int .i64 z),[],[])) hmG (fun G R=>by kernel_rfl) ?_
   have e:nthN m k=z:=by
    unfold nthN
    rw[←h,if_pos ⟨by omega,by rw[h5];simp;omega⟩,h5]
    simp
   show _=_
   rw[e]
  ·rw[beq_eq_false_iff_ne] at h4
   rw[h3]
   have:=ih (ys++[z]) (by simpa using h) (by
    have:¬k=ys.length:=fun hk=>h4 (h2.2 hk)
    simp
    omega)
   rw[List.length_append] at this
   exact this
theorem d34U (m:Nat) (k:Int) (hm:m<W64) (hk: -9223372036854775808≤k∧k<9223372036854775808):Con Tryd.prog 34 [] [u64 m,.v (.int .i64 k)] ((.v (.int .i64 (nthN m k)))) [] []:=by
 refine con_vc (how:=[none]) (c:=u34) (K:=(KX u34)) spZ (fun _=> [3,4,7]) (fun _=> []) 400 (.cut 100) (V:=fun G R=>Con Tryd.prog 21 [] [D.v (Value.int .u64 (↑m:Int))] (D.fn 72 [D.rptr [D.v (Value.int .u64 (↑m:Int))]]) [] []∧Value.int .u64 (↑m:Int)=Value.int .u64 (↑m:Int)∧SameK (KX u34 100) (KX u34 100)∧G 100 (stOf 14 [3,4,7] [D.ptr 0 0 0,D.ptr 1 0 0,D.fn 72 [D.rptr [D.v (Value.int .u64 (↑m:Int))]]] [Slot.live (Row.box 3 [D.v (Value.int .i64 k)]),Slot.live (Row.box 3 [D.v (Value.int .i64 (0:Int))])])) hmG Tryd.func34 (by kernel_rfl) (by kernel_rfl) (fun G R=>by kernel_rfl) ?_
 try dsimp only
 refine⟨d21U m,rfl,SameK.same _,?_⟩
 refine getsK_range (i:=0) (by decide) rfl rfl ⟨rfl,rfl⟩ (it72 m hm) ?_
 have:=r34 m k hk _ [] rfl (by simp;omega)
 rw[List.length_nil,show k-((0:Nat):Int)=k by omega,wrG hk.1 (by omega)] at this
 exact this
theorem d130U (m:Nat) (hm:m<W64):Con Tryd.prog 130 [] [u64 m] (.v (.bool (manyB m))) [] []:=by
 refine con_vc (how:=[none]) (c:=u130) (K:=(KK u130)) spZ (fun _=> []) (fun _=> []) 400 .stop (V:=fun G R=>R (D.v (Value.bool (IntKind.u64.wrap (↑(BitVec.ofInt 64 (↑m:Int)&&&BitVec.ofInt 64 (IntKind.u64.wrap ((↑m:Int)-(1:Int)))).toNat:Int) !=(0:Int))),[],[])) hmG Tryd.func130 (by kernel_rfl) (by kernel_rfl) (fun G R=>by kernel_rfl) ?_
 try dsimp only
 have e:((BitVec.ofInt 64 (m:Int)&&&BitVec.ofInt 64 (IntKind.u64.wrap ((m:Int)-1))).toNat:Int)=((m&&&(m-1):Nat):Int):=by
  by_cases h0:m=0
  ·subst h0
   rfl
  ·have hm':m<18446744073709551616:=hm
   have w1:IntKind.u64.wrap ((m:Int)-1)=((m-1:Nat):Int):=by
    rw[show(m:Int)-1=((m-1:Nat):Int) by omega]
    exact wrU' (Nat.lt_of_le_of_lt (Nat.sub_le _ _) hm)
   rw[w1,andU (a:=m) (b:=m-1) hm (Nat.lt_of_le_of_lt (Nat.sub_le _ _) hm)]
 rw[e,wrU' (and_lt hm)]
 have e2:(((m&&&(m-1):Nat):Int) !=0)=manyB m:=by
  unfold manyB
  rw[cast_bne0]
 rw[e2]
def vq26 (M:List Nat) (k:Int) (G:Nat→St→Prop) (R:D×List (Option Row)×List Row→Prop):Prop:=let yy0:=((Mi M).getD k.toNat (Ty.int .u64).dflt);(decide (k< (↑M.length:Int))=true→(0:Int)≤k∧k< (↑(Mi M).length:Int)∧Con Tryd.prog 130 [] [D.v (Value.int .u64 yy0)] (D.v (Value.bool (manyB (Int.toNat yy0)))) [] []∧Value.int .u64 yy0=Value.int .u64 yy0∧(manyB (Int.toNat yy0)=true→R (D.v (Value.int .i64 k),[],[]))∧(manyB (Int.toNat yy0)=false→SameK (KK u129 0) (KK u129 0)∧G 0 (stOf 19 [0,1,6,7,8] [D.sl false false (Ty.int .u64) (Mi M),D.fn 130 [],D.sl false false (Ty.int .u64) (Mi M),D.v (Value.int .i64 (↑M.length:Int)),D.v (Value.int .i64 (IntKind.i64.wrap (k+(1:Int))))] [])))∧(decide (k< (↑M.length:Int))=false→R (D.v (Value.int .i64 (-1:Int)),[],[]))
theorem e129 (M:List Nat) (hM:Smalls M) (hl:M.length≤1000000) (z:Nat):∀(k:Int),0≤k→k+z=M.length→∀r,r=findU k (M.drop k.toNat)→GetsK Tryd.prog Tryd.f129.results.toList [none] (KK u129) 0 (.v (.int .i64 r),[],[]) 0 (stOf 19 [0,1,6,7,8] [slU M,.fn 130 [],slU M,.v (.int .i64 M.length),.v (.int .i64 k)] []):=by
 induction z with
 |zero=>
  intro k k0 hk r hr
  rw[List.drop_eq_nil_of_le (by omega)] at hr
  have hr:r= -1:=hr
  subst hr
  refine gets_vc spZ (fun _=> [0,1,6,7,8]) (fun _=> []) 400 (.fork (.fork .stop (.hd 0)) .stop) (V:=vq26 M k) hmG (fun G R=>by kernel_rfl) ?_
  unfold vq26
  try dsimp only
  simp (disch:=omega) only[oo,oop,ne_eq,Ty.dflt,reduceCtorEq]
  repeat' (first|with_reducible refine And.intro ?_ ?_|intro _)
  all_goals first|rfl|omega|assumption|trivial|(exfalso;simp_all;done)|(exfalso;omega)|skip
 |succ z ih=>
  intro k k0 hk r hr
  have hk1:IntKind.i64.wrap (k+1)=k+1:=wrG (by omega) (by omega)
  rw[drop_at (xs:=M) (i:=k) 0 k0 (by omega)] at hr
  have h1:=ih (k+1) (by omega) (by omega) _ rfl
  obtain⟨a,ha⟩:∃a,M.getD k.toNat 0=a:=⟨_,rfl⟩
  have has:=hM.at k.toNat
  rw[ha] at hr has
  have c1:=d130U a has
  unfold u64 at c1
  have w:decide (k< (M.length:Int))=true:=decide_eq_true (by omega)
  refine gets_vc spZ (fun _=> [0,1,6,7,8]) (fun _=> []) 400 (.fork (.fork .stop (.hd 0)) .stop) (V:=vq26 M k) hmG (fun G R=>by kernel_rfl) ?_
  unfold vq26
  try dsimp only
  simp only[w,Ty.dflt,hk1,take_len,List.drop_zero,List.take_length,Mi_getD,Mi_len,Nt_Mi,Int.toNat_natCast,Mi_set,Nat.zero_add,Nat.sub_zero,List.length_set,take_one,takeSn,List.take_zero,List.nil_append,List.length_append,List.length_cons,List.length_nil,Mi_take,ha]
  by_cases hf:manyB a=true
  ·have hr:r=k:=by rw[hr];simp only[findU,hf,if_true]
   subst hr
   rw[hf] at c1
   simp only[hf]
   simp (disch:=omega) only[oo,oop,ne_eq,Ty.dflt,reduceCtorEq]
   repeat' (first|with_reducible refine And.intro ?_ ?_|intro _)
   all_goals first|rfl|omega|assumption|trivial|(exfalso;simp_all;done)|(exfalso;omega)|skip
  ·have hf':manyB a=false:=by simpa using hf
   have hr:r=findU (k+1) (M.drop (k+1).toNat):=by rw[hr];simp only[findU,hf',Bool.false_eq_true,if_false]
   rw[←hr] at h1
   rw[hf'] at c1
   simp only[hf']
   simp (disch:=omega) only[oo,oop,ne_eq,Ty.dflt,reduceCtorEq]
   repeat' (first|with_reducible refine And.intro ?_ ?_|intro _)
   all_goals first|rfl|omega|assumption|trivial|(exfalso;simp_all;done)|(exfalso;omega)|skip
def vq27 (M:List Nat) (k:Int) (Q:List Int) (G:Nat→St→Prop) (R:D×List (Option Row)×List Row→Prop):Prop:=let yy0:=((Mi M).getD k.toNat (Ty.int .u64).dflt);(decide (k< (↑M.length:Int))=true→(0:Int)≤k∧k< (↑(Mi M).length:Int)∧Con Tryd.prog 34 [] [D.v (Value.int .u64 yy0),D.v (Value.int .i64 (0:Int))] (D.v (Value.int .i64 (nthN (Int.toNat yy0) (0:Int)))) [] []∧Value.int .u64 yy0=Value.int .u64 yy0∧Value.int .i64 (0:Int)=Value.int .i64 (0:Int)∧(0:Int)≤k∧k< (↑Q.length:Int)∧0+k.toNat<Q.length∧SameK (KK u131 0) (KK u131 0)∧G 0 (stOf 23 [3,9,10,11] [D.own 0 0 Q.length (some Q.length),D.sl false false (Ty.int .u64) (Mi M),D.v (Value.int .i64 (↑M.length:Int)),D.v (Value.int .i64 (IntKind.i64.wrap (k+(1:Int))))] [Slot.live (Row.data 3 (Ty.int .i64) (Q.set (0+k.toNat) (nthN (Int.toNat yy0) (0:Int))))]))∧(decide (k< (↑M.length:Int))=false→R (D.own 0 0 Q.length (some Q.length),[],[Row.data 3 (Ty.int .i64) Q]))
theorem e131 (M:List Nat) (hM:Smalls M) (hl:M.length≤1000000) (z:Nat):∀(k:Int) (Q:List Int),0≤k→k+z=M.length→Q.length=M.length→(∀j:Nat,j<k.toNat→Q.getD j 0=(lettersF M).getD j 0)→GetsK Tryd.prog Tryd.f131.results.toList [none] (KK u131) 0 (.own 0 0 (lettersF M).length (some (lettersF M).length),[],[.data 3 (.int .i64) (lettersF M)]) 0 (stOf 23 [3,9,10,11] [.own 0 0 Q.length (some Q.length),slU M,.v (.int .i64 M.length),.v (.int .i64 k)] [.live (.data 3 (.int .i64) Q)]):=by
 have hLl:(lettersF M).length=M.length:=by unfold lettersF;rw[List.length_map]
 induction z with
 |zero=>
  intro k Q k0 hk hQ hq
  have e:Q=lettersF M:=by
   apply List.ext_getElem (by omega)
   intro j h1 h2
   have:=hq j (by omega)
   rw[List.getD_eq_getElem?_getD,List.getD_eq_getElem?_getD,List.getElem?_eq_getElem h1,List.getElem?_eq_getElem h2] at this
   exact this
  refine gets_vc spZ (fun _=> [3,9,10,11]) (fun _=> []) 400 (.fork (.hd 0) .stop) (V:=vq27 M k Q) hmG (fun G R=>by kernel_rfl) ?_
  unfold vq27
  try dsimp only
  have w:decide (k< (M.length:Int))=false:=decide_eq_false (by omega)
  simp only[w,e]
  simp (disch:=omega) only[oo,oop,ne_eq,Ty.dflt,reduceCtorEq]
  repeat' (first|with_reducible refine And.intro ?_ ?_|intro _)
  all_goals first|rfl|omega|assumption|trivial|(exfalso;simp_all;done)|(exfalso;omega)|skip
 |succ z ih=>
  intro k Q k0 hk hQ hq
  have hk1:IntKind.i64.wrap (k+1)=k+1:=wrG (by omega) (by omega)
  obtain⟨a,ha⟩:∃a,M.getD k.toNat 0=a:=⟨_,rfl⟩
  have has:=hM.at k.toNat
  rw[ha] at has
  have c1:=d34U a 0 has (by omega)
  unfold u64 at c1
  have eL:(lettersF M).getD k.toNat 0=nthN a 0:=by
   unfold lettersF
   rw[List.getD_eq_getElem?_getD,List.getElem?_map,List.getElem?_eq_getElem (by omega),←ha,List.getD_eq_getElem?_getD,List.getElem?_eq_getElem (by omega)]
   rfl
  have hg:=ih (k+1) (Q.set k.toNat (nthN a 0)) (by omega) (by omega) (by rw[List.length_set];exact hQ) (fun j hj=>by
   rw[getD_setI]
   split
   ·rename_i h
    rw[←h.1,eL]
   ·rename_i h
    exact hq j (by omega))
  rw[List.length_set] at hg
  have w:decide (k< (M.length:Int))=true:=decide_eq_true (by omega)
  refine gets_vc spZ (fun _=> [3,9,10,11]) (fun _=> []) 400 (.fork (.hd 0) .stop) (V:=vq27 M k Q) hmG (fun G R=>by kernel_rfl) ?_
  unfold vq27
  try dsimp only
  simp only[w,Ty.dflt,hk1,take_len,List.drop_zero,List.take_length,Mi_getD,Mi_len,Nt_Mi,Int.toNat_natCast,Mi_set,Nat.zero_add,Nat.sub_zero,List.length_set,take_one,takeSn,List.take_zero,List.nil_append,List.length_append,List.length_cons,List.length_nil,Mi_take,ha]
  simp (disch:=omega) only[oo,oop,ne_eq,Ty.dflt,reduceCtorEq]
  repeat' (first|with_reducible refine And.intro ?_ ?_|intro _)
  all_goals first|rfl|omega|assumption|trivial|(exfalso;simp_all;done)|(exfalso;omega)|skip
theorem d129U (M:List Nat) (hM:Smalls M) (hl:M.length≤1000000):Con Tryd.prog 129 [] [slU M,.fn 130 []] (.v (.int .i64 (findU 0 M))) [] []:=by
 refine con_vc (how:=[none]) (c:=u129) (K:=(KK u129)) spZ (fun _=> [0,1,6,7,8]) (fun _=> []) 400 (.hd 0) (V:=fun G R=>SameK (KK u129 0) (KK u129 0)∧G 0 (stOf 19 [0,1,6,7,8] [D.sl false false (Ty.int .u64) (Mi M),D.fn 130 [],D.sl false false (Ty.int .u64) (Mi M),D.v (Value.int .i64 (↑(Mi M).length:Int)),D.v (Value.int .i64 (0:Int))] [])) hmG Tryd.func129 (by kernel_rfl) (by kernel_rfl) (fun G R=>by kernel_rfl) ?_
 try dsimp only
 have hx:=e129 M hM hl M.length 0 (by omega) (by omega) _ rfl
 simp only[Mi_len]
 simp (disch:=omega) only[oo,oop,ne_eq,Ty.dflt,reduceCtorEq]
 repeat' (first|with_reducible refine And.intro ?_ ?_|intro _)
 all_goals first|rfl|omega|assumption|trivial|(exfalso;simp_all;done)|(exfalso;omega)|skip
theorem d131U (M:List Nat) (hM:Smalls M) (hl:M.length≤1000000):Con Tryd.prog 131 [] [slU M] (.own 0 0 (lettersF M).length (some (lettersF M).length)) [] [.data 3 (.int .i64) (lettersF M)]:=by
 refine con_vc (how:=[none]) (c:=u131) (K:=(KK u131)) spZ (fun _=> [3,9,10,11]) (fun _=> []) 400 (.hd 0) (V:=fun G R=>let yy0:=(↑(Mi M).length:Int);(0:Int)≤yy0∧yy0≤yy0∧yy0≤(9223372036854775807:Int)∧yy0.toNat*8≤281474976710656∧SameK (KK u131 0) (KK u131 0)∧G 0 (stOf 23 [3,9,10,11] [D.own 0 0 yy0.toNat (some yy0.toNat),D.sl false false (Ty.int .u64) (Mi M),D.v (Value.int .i64 yy0),D.v (Value.int .i64 (0:Int))] [Slot.live (Row.data 3 (Ty.int .i64) (List.replicate yy0.toNat (0:Int)))])) hmG Tryd.func131 (by kernel_rfl) (by kernel_rfl) (fun G R=>by kernel_rfl) ?_
 try dsimp only
 try dsimp only
 have hx:=e131 M hM hl M.length 0 (List.replicate M.length 0) (by omega) (by omega) (by simp) (fun j hj=>by simp at hj)
 rw[List.length_replicate] at hx
 simp only[Mi_len,Int.toNat_natCast]
 simp (disch:=omega) only[oo,oop,ne_eq,Ty.dflt,reduceCtorEq]
 repeat' (first|with_reducible refine And.intro ?_ ?_|intro _)
 all_goals first|rfl|omega|assumption|trivial|(exfalso;simp_all;done)|(exfalso;omega)|skip
theorem d132U (X:List (Int×Int)):Con Tryd.prog 132 [] [slQ X] (.sl false true SeT X) [] []:=by
 refine con_vc (how:=[none]) (c:=u132) (K:=(KK u132)) spZ (fun _=> []) (fun _=> []) 400 .stop (V:=fun G R=>let yy0:=(↑X.length:Int);(0:Int)≤(0:Int)∧(0:Int)≤yy0∧yy0=yy0∧yy0≤yy0∧R (D.sl false true ((Ty.int .i64).prod (Ty.int .i64)) (List.take (yy0.toNat-0) (List.drop 0 X)),[],[])) hmG Tryd.func132 (by kernel_rfl) (by kernel_rfl) (fun G R=>by kernel_rfl) ?_
 try dsimp only
 try dsimp only
 simp only[Int.toNat_natCast,show(0:Int).toNat=0 by rfl,List.drop_zero,Nat.sub_zero,List.take_length]
 simp (disch:=omega) only[oo,oop,ne_eq,Ty.dflt,reduceCtorEq]
 repeat' (first|with_reducible refine And.intro ?_ ?_|intro _)
 all_goals first|rfl|omega|assumption|trivial|(exfalso;simp_all;done)|(exfalso;omega)|skip
theorem d147Ut (X:List (Int×Int)) (hX:X.length≤1000000):Con Tryd.prog 147 [] [.sl true false SeT X] (.own 0 0 X.length none) [] [.data 92 SeT X]:=by
 refine con_vc (how:=[none]) (c:=u147) (K:=(KK u147)) spZ (fun _=> []) (fun k=>if k=99 then [⟨2,92,SeT⟩] else []) 400 (.fork .stop .stop) (V:=fun G R=>(false=true→R (D.own 0 0 0 none,[],[Row.data 92 ((Ty.int .i64).prod (Ty.int .i64)) []]))∧(false=false→roomy Tryd.prog 92 (0+X.length)∧R (D.own 0 0 (0+X.length) none,[],[Row.data 92 ((Ty.int .i64).prod (Ty.int .i64)) (List.take 0 (List.drop 0 [])++X)]))) hmG Tryd.func147 (by kernel_rfl) (by kernel_rfl) (fun G R=>by kernel_rfl) ?_
 try dsimp only
 simp only[take_len,List.drop_zero,List.take_length,Mi_getD,Mi_len,Nt_Mi,Int.toNat_natCast,Mi_set,Nat.zero_add,Nat.sub_zero,List.length_set,take_one,takeSn,List.take_zero,List.nil_append,List.length_append,List.length_cons,List.length_nil,Mi_take]
 simp (disch:=omega) only[oo,oop,ne_eq,Ty.dflt,reduceCtorEq]
 repeat' (first|with_reducible refine And.intro ?_ ?_|intro _)
 all_goals first|rfl|omega|assumption|trivial|exact room92 (by omega)|exact room90U (by omega)|(exfalso;simp_all;done)|(exfalso;omega)|skip
theorem d147Un:Con Tryd.prog 147 [] [.v (.slice none 0 0)] (.own 0 0 0 none) [] [.data 92 SeT []]:=by
 refine con_vc (how:=[none]) (c:=u147) (K:=(KK u147)) spZ (fun _=> []) (fun k=>if k=99 then [⟨2,92,SeT⟩] else []) 400 (.fork .stop .stop) (V:=fun G R=>(true=true→R (D.own 0 0 0 none,[],[Row.data 92 ((Ty.int .i64).prod (Ty.int .i64)) []]))∧(true=false→roomy Tryd.prog 92 0∧R (D.own 0 0 0 none,[],[Row.data 92 ((Ty.int .i64).prod (Ty.int .i64)) (List.take 0 (List.drop 0 [])++[])]))) hmG Tryd.func147 (by kernel_rfl) (by kernel_rfl) (fun G R=>by kernel_rfl) ?_
 try dsimp only
 simp (disch:=omega) only[oo,oop,ne_eq,Ty.dflt,reduceCtorEq]
 repeat' (first|with_reducible refine And.intro ?_ ?_|intro _)
 all_goals first|rfl|omega|assumption|trivial|exact room92 (by omega)|exact room90U (by omega)|(exfalso;simp_all;done)|(exfalso;omega)|skip
theorem d147U (X:List (Int×Int)) (hX:X.length≤1000000):Con Tryd.prog 147 [] [slQ X] (.own 0 0 X.length none) [] [.data 92 SeT X]:=con_nn2 (d147Ut X hX) fun e=>by
 subst e
 exact d147Un
theorem d97U (X:List Int) (b:Bool):Con Tryd.prog 97 [.box 4 [.v (.bool b)]] [slI X,.ptr 0 0 0] (.v (.bool false)) [some (.box 4 [.v (.bool true)])] []:=by
 refine con_vc (how:=[none]) (c:=u97) (K:=(KK u97)) spZ (fun _=> []) (fun _=> []) 400 .stop (V:=fun G R=>R (D.v (Value.bool false),[some (Row.box 4 [D.v (Value.bool true)])],[])) hmG Tryd.func97 (by kernel_rfl) (by kernel_rfl) (fun G R=>by kernel_rfl) ?_
 try dsimp only
 all_goals rfl
theorem d128U (g:Gr) (W:List (List Int)) (M:List Nat) (F:List (List (Int×Int))) (X:List (Int×Int)) (seen:Int) (fb:Bool) (hF:F.length≤1000000) (hX:X.length≤1000000):Con Tryd.prog 128 [rowV ⟨g,W,M⟩ 2 1 F.length seen,.data 90 BT F,.box 4 [.v (.bool fb)]] [.ptr 0 0 0,slQ X] (.tup []) [some (rowV ⟨g,W,M⟩ 2 3 (F.length+1) seen),none,some (.box 4 [.v (.bool fb)])] [.data 90 BT (F++[X])]:=by
 refine con_vc (how:=[]) (c:=u128) (K:=(KK u128)) spZ (fun _=> []) (fun _=> []) 400 (.fork .stop .stop) (V:=fun G R=>let yy0:=(Ty.int .i64);(true=true→Con Tryd.prog 147 [] [D.sl false false (yy0.prod yy0) X] (D.own 0 0 X.length none) [] [Row.data 92 (yy0.prod yy0) X]∧X=X∧roomy Tryd.prog 90 (F.length+1)∧R (D.tup [],[some (Row.box 129 [D.fn 97 [D.ptr 2 0 0],D.v (Value.bool true),D.own 3 0 (F.length+1) none,D.v (Value.int .i64 (Pr.mk g W M).g.h),D.v (Value.int .i64 (Pr.mk g W M).g.w),D.sl false false Ty.bool (Pr.mk g W M).g.B,D.sl false false Ty.bool (Pr.mk g W M).g.R,D.sl false false Ty.bool (Pr.mk g W M).g.L,D.sl false false yy0.sl (Pr.mk g W M).W,D.sl false false (Ty.int .u64) (Mi (Pr.mk g W M).M),D.v (Value.int .i64 seen)]),none,some (Row.box 4 [D.v (Value.bool fb)])],[Row.data 90 (yy0.prod yy0).sl (List.take F.length (List.drop 0 F)++List.take 1 (List.drop 0 [List.take X.length (List.drop 0 X)]))]))∧(true=false→R (D.tup [],[some (Row.box 129 [D.fn 97 [D.ptr 2 0 0],D.v (Value.bool true),D.own 1 0 F.length none,D.v (Value.int .i64 (Pr.mk g W M).g.h),D.v (Value.int .i64 (Pr.mk g W M).g.w),D.sl false false Ty.bool (Pr.mk g W M).g.B,D.sl false false Ty.bool (Pr.mk g W M).g.R,D.sl false false Ty.bool (Pr.mk g W M).g.L,D.sl false false yy0.sl (Pr.mk g W M).W,D.sl false false (Ty.int .u64) (Mi (Pr.mk g W M).M),D.v (Value.int .i64 seen)]),some (Row.data 90 (yy0.prod yy0).sl F),some (Row.box 4 [D.v (Value.bool fb)])],[]))) hmG Tryd.func128 (by kernel_rfl) (by kernel_rfl) (fun G R=>by kernel_rfl) ?_
 try dsimp only
 try dsimp only
 have c1:=d147U X hX
 simp only[Nt_Mi,take_len,List.drop_zero,List.take_length,Mi_getD,Mi_len,Nt_Mi,Int.toNat_natCast,Mi_set,Nat.zero_add,Nat.sub_zero,List.length_set,take_one,takeSn,List.take_zero,List.nil_append,List.length_append,List.length_cons,List.length_nil,Mi_take]
 simp (disch:=omega) only[oo,oop,ne_eq,Ty.dflt,reduceCtorEq]
 repeat' (first|with_reducible refine And.intro ?_ ?_|intro _)
 all_goals first|rfl|omega|assumption|trivial|exact room92 (by omega)|exact room90U (by omega)|(exfalso;simp_all;done)|(exfalso;omega)|skip
end Go.Proofs.YtnakmganodkliaaDoorAm
set_option maxRecDepth 100000
namespace Go.Proofs.YtnakmganodkliaaDoorAm
open Go
theorem b127 (g:Gr) (W:List (List Int)) (M:List Nat) (F:List (List (Int×Int))) (X:List (Int×Int)) (seen:Int) (fb:Bool) (c:Int) (m:Nat) (hF:F.length≤1000000) (hX:X.length≤1000000):GetsK Tryd.prog Tryd.f127.results.toList [none] (KX u127) 5 (.v (.int .i64 ((0:Int),(seen,F++[X],fb)).1),[some (.box 125 [.ptr 2 0 0]),some (.box 159 [.fn 127 [.ptr 0 0 0,.ptr 1 0 0]]),some (.box 129 [.fn 97 [.ptr 4 0 0],.v (.bool true),.own 5 0 ((0:Int),(seen,F++[X],fb)).2.2.1.length none,.v (.int .i64 g.h),.v (.int .i64 g.w),.sl false false .bool g.B,.sl false false .bool g.R,.sl false false .bool g.L,slW W,slU M,.v (.int .i64 ((0:Int),(seen,F++[X],fb)).2.1)]),none,some (.box 4 [.v (.bool ((0:Int),(seen,F++[X],fb)).2.2.2)])],[.data 90 BT ((0:Int),(seen,F++[X],fb)).2.2.1]) 300 (stOf 73 [1,2,3,4,7,10,56] [.ptr 0 0 0,.ptr 1 0 0,.ptr 5 0 0,.ptr 6 0 0,.ptr 7 0 0,.ptr 2 0 0,.fn 72 [.rptr [u64 m]]] [.live (.box 125 [.ptr 2 0 0]),.live (.box 159 [.fn 127 [.ptr 0 0 0,.ptr 1 0 0]]),.live (.box 129 [.fn 97 [.ptr 4 0 0],.v (.bool true),.own 8 0 F.length none,.v (.int .i64 g.h),.v (.int .i64 g.w),.sl false false .bool g.B,.sl false false .bool g.R,.sl false false .bool g.L,slW W,slU M,.v (.int .i64 seen)]),.dead,.live (.box 4 [.v (.bool fb)]),.live (.box 90 [slQ X]),.live (.box 3 [.v (.int .i64 0)]),.live (.box 3 [.v (.int .i64 c)]),.live (.data 90 BT F)]):=by
 have c1:=d128U g W M F X seen fb hF hX
 refine gets_vc spZ (fun _=> []) (fun _=> [⟨1000020010,90,BT⟩]) 400 .stop (V:=fun G R=>let yy0:=(Pr.mk g W (Nt (Mi M)));let yy1:=(Ty.int .i64);let yy2:=(Value.int .i64 seen);let yy3:=(Row.box 4 [D.v (Value.bool fb)]);let yy4:=(Value.int .i64 yy0.g.h);let yy5:=(Value.int .i64 yy0.g.w);let yy6:=(Ty.int .u64);Con Tryd.prog 128 [Row.box 129 [D.fn 97 [D.ptr 2 0 0],D.v (Value.bool true),D.own 1 0 F.length none,D.v yy4,D.v yy5,D.sl false false Ty.bool yy0.g.B,D.sl false false Ty.bool yy0.g.R,D.sl false false Ty.bool yy0.g.L,D.sl false false yy1.sl yy0.W,D.sl false false yy6 (Mi yy0.M),D.v yy2],Row.data 90 (yy1.prod yy1).sl F,Row.box 4 [D.v (Value.bool fb)]] [D.ptr 0 0 0,D.sl false false (yy1.prod yy1) X] (D.tup []) [some (Row.box 129 [D.fn 97 [D.ptr 2 0 0],D.v (Value.bool true),D.own 3 0 (F.length+1) none,D.v yy4,D.v yy5,D.sl false false Ty.bool yy0.g.B,D.sl false false Ty.bool yy0.g.R,D.sl false false Ty.bool yy0.g.L,D.sl false false yy1.sl yy0.W,D.sl false false yy6 (Mi yy0.M),D.v yy2]),none,some yy3] [Row.data 90 (yy1.prod yy1).sl (F++[X])]∧2=2∧0=0∧0=0∧X=X∧some (Row.box 129 [D.fn 97 [D.ptr 4 0 0],D.v (Value.bool true),D.own 8 0 F.length none,D.v (Value.int .i64 g.h),D.v (Value.int .i64 g.w),D.sl false false Ty.bool g.B,D.sl false false Ty.bool g.R,D.sl false false Ty.bool g.L,D.sl false false yy1.sl W,D.sl false false yy6 (Mi M),D.v yy2])=some (Row.box 129 [D.fn 97 [D.ptr 4 0 0],D.v (Value.bool true),D.own 8 0 F.length none,D.v yy4,D.v yy5,D.sl false false Ty.bool yy0.g.B,D.sl false false Ty.bool yy0.g.R,D.sl false false Ty.bool yy0.g.L,D.sl false false yy1.sl yy0.W,D.sl false false yy6 (Mi yy0.M),D.v yy2])∧some (Row.data 90 (yy1.prod yy1).sl F)=some (Row.data 90 (yy1.prod yy1).sl F)∧some yy3=some yy3∧R (D.v (Value.int .i64 (0:Int)),[some (Row.box 125 [D.ptr 2 0 0]),some (Row.box 159 [D.fn 127 [D.ptr 0 0 0,D.ptr 1 0 0]]),some (Row.box 129 [D.fn 97 [D.ptr 4 0 0],D.v (Value.bool true),D.own 5 0 (F.length+1) none,D.v yy4,D.v yy5,D.sl false false Ty.bool yy0.g.B,D.sl false false Ty.bool yy0.g.R,D.sl false false Ty.bool yy0.g.L,D.sl false false yy1.sl yy0.W,D.sl false false yy6 (Mi yy0.M),D.v yy2]),none,some yy3],[Row.data 90 (yy1.prod yy1).sl (List.take (F.length+1) (List.drop 0 (F++[X])))])) hmG (fun G R=>by kernel_rfl) ?_
 try dsimp only
 simp only[Nt_Mi,take_len,List.drop_zero,List.take_length,Mi_getD,Mi_len,Nt_Mi,Int.toNat_natCast,Mi_set,Nat.zero_add,Nat.sub_zero,List.length_set,take_one,takeSn,List.take_zero,List.nil_append,List.length_append,List.length_cons,List.length_nil,Mi_take]
 simp (disch:=omega) only[oo,oop,ne_eq,Ty.dflt,reduceCtorEq]
 repeat' (first|with_reducible refine And.intro ?_ ?_|intro _)
 all_goals first|rfl|omega|assumption|trivial|exact room92 (by omega)|(exfalso;simp_all;done)|(exfalso;omega)|skip
theorem j127 (g:Gr) (W:List (List Int)) (M:List Nat) (F:List (List (Int×Int))) (X:List (Int×Int)) (seen:Int) (fb:Bool) (c:Int) (m:Nat) (how:Int):GetsK Tryd.prog Tryd.f127.results.toList [none] (KX u127) 5 (.v (.int .i64 (how,(seen,F,fb)).1),[some (.box 125 [.ptr 2 0 0]),some (.box 159 [.fn 127 [.ptr 0 0 0,.ptr 1 0 0]]),some (.box 129 [.fn 97 [.ptr 4 0 0],.v (.bool true),.own 5 0 (how,(seen,F,fb)).2.2.1.length none,.v (.int .i64 g.h),.v (.int .i64 g.w),.sl false false .bool g.B,.sl false false .bool g.R,.sl false false .bool g.L,slW W,slU M,.v (.int .i64 (how,(seen,F,fb)).2.1)]),none,some (.box 4 [.v (.bool (how,(seen,F,fb)).2.2.2)])],[.data 90 BT (how,(seen,F,fb)).2.2.1]) 500 (stOf 73 [1,2,3,4,7,10,56] [.ptr 0 0 0,.ptr 1 0 0,.ptr 5 0 0,.ptr 6 0 0,.ptr 7 0 0,.ptr 2 0 0,.fn 72 [.rptr [u64 m]]] [.live (.box 125 [.ptr 2 0 0]),.live (.box 159 [.fn 127 [.ptr 0 0 0,.ptr 1 0 0]]),.live (.box 129 [.fn 97 [.ptr 4 0 0],.v (.bool true),.own 8 0 F.length none,.v (.int .i64 g.h),.v (.int .i64 g.w),.sl false false .bool g.B,.sl false false .bool g.R,.sl false false .bool g.L,slW W,slU M,.v (.int .i64 seen)]),.dead,.live (.box 4 [.v (.bool fb)]),.live (.box 90 [slQ X]),.live (.box 3 [.v (.int .i64 how)]),.live (.box 3 [.v (.int .i64 c)]),.live (.data 90 BT F)]):=by
 refine gets_vc spZ (fun _=> []) (fun _=> [⟨1000020010,90,BT⟩]) 400 .stop (V:=fun G R=>R (D.v (Value.int .i64 how),[some (Row.box 125 [D.ptr 2 0 0]),some (Row.box 159 [D.fn 127 [D.ptr 0 0 0,D.ptr 1 0 0]]),some (Row.box 129 [D.fn 97 [D.ptr 4 0 0],D.v (Value.bool true),D.own 5 0 F.length none,D.v (Value.int .i64 g.h),D.v (Value.int .i64 g.w),D.sl false false Ty.bool g.B,D.sl false false Ty.bool g.R,D.sl false false Ty.bool g.L,D.sl false false (Ty.int .i64).sl W,D.sl false false (Ty.int .u64) (Mi M),D.v (Value.int .i64 seen)]),none,some (Row.box 4 [D.v (Value.bool fb)])],[Row.data 90 ((Ty.int .i64).prod (Ty.int .i64)).sl (List.take F.length (List.drop 0 F))])) hmG (fun G R=>by kernel_rfl) ?_
 simp only[Nt_Mi,take_len,List.drop_zero,List.take_length,Mi_getD,Mi_len,Nt_Mi,Int.toNat_natCast,Mi_set,Nat.zero_add,Nat.sub_zero,List.length_set,take_one,takeSn,List.take_zero,List.nil_append,List.length_append,List.length_cons,List.length_nil,Mi_take]
theorem y127 (g:Gr) (W:List (List Int)) (M:List Nat) (hc:checkP ⟨g,W,M⟩=0) (hM:Smalls M) (X:List (Int×Int)) (c:Int) (hcn:0≤c∧c<M.length) (m:Nat) (z0:Int) (hX:FxOk M.length z0 X) (hz:z0≤66000) (hrec:∀(X':List (Int×Int)) (s:RunS),z0<s.1→s.1≤66000→RunOk M.length s→FxOk M.length s.1 X'→Con Tryd.prog 127 [.box 125 [.ptr 2 0 0],.box 159 [.fn 127 [.ptr 0 0 0,.ptr 1 0 0]],.box 129 [.fn 97 [.ptr 4 0 0],.v (.bool true),.own 3 0 s.2.1.length none,.v (.int .i64 g.h),.v (.int .i64 g.w),.sl false false .bool g.B,.sl false false .bool g.R,.sl false false .bool g.L,slW W,slU M,.v (.int .i64 s.1)],.data 90 BT s.2.1,.box 4 [.v (.bool s.2.2)]] [slQ X',.ptr 0 0 0,.ptr 1 0 0] (.v (.int .i64 (runS ⟨g,W,M⟩ X' s).1)) [some (.box 125 [.ptr 2 0 0]),some (.box 159 [.fn 127 [.ptr 0 0 0,.ptr 1 0 0]]),some (.box 129 [.fn 97 [.ptr 4 0 0],.v (.bool true),.own 5 0 (runS ⟨g,W,M⟩ X' s).2.2.1.length none,.v (.int .i64 g.h),.v (.int .i64 g.w),.sl false false .bool g.B,.sl false false .bool g.R,.sl false false .bool g.L,slW W,slU M,.v (.int .i64 (runS ⟨g,W,M⟩ X' s).2.1)]),none,some (.box 4 [.v (.bool (runS ⟨g,W,M⟩ X' s).2.2.2)])] [.data 90 BT (runS ⟨g,W,M⟩ X' s).2.2.1]):∀(zs:List Int) (s:RunS),z0<s.1→s.1≤66000→RunOk M.length s→(s.2.1.length:Int)+1≤s.1→∀r,r=kidsF (runS ⟨g,W,M⟩) X c zs s→RndsK Tryd.prog u127 Tryd.f127.results.toList [none] 5 (.v (.int .i64 r.1),[some (.box 125 [.ptr 2 0 0]),some (.box 159 [.fn 127 [.ptr 0 0 0,.ptr 1 0 0]]),some (.box 129 [.fn 97 [.ptr 4 0 0],.v (.bool true),.own 5 0 r.2.2.1.length none,.v (.int .i64 g.h),.v (.int .i64 g.w),.sl false false .bool g.B,.sl false false .bool g.R,.sl false false .bool g.L,slW W,slU M,.v (.int .i64 r.2.1)]),none,some (.box 4 [.v (.bool r.2.2.2)])],[.data 90 BT r.2.2.1]) 0 (vals zs) (stOf 73 [1,2,3,4,7,10,56] [.ptr 0 0 0,.ptr 1 0 0,.ptr 5 0 0,.ptr 6 0 0,.ptr 7 0 0,.ptr 2 0 0,.fn 72 [.rptr [u64 m]]] [.live (.box 125 [.ptr 2 0 0]),.live (.box 159 [.fn 127 [.ptr 0 0 0,.ptr 1 0 0]]),.live (.box 129 [.fn 97 [.ptr 4 0 0],.v (.bool true),.own 8 0 s.2.1.length none,.v (.int .i64 g.h),.v (.int .i64 g.w),.sl false false .bool g.B,.sl false false .bool g.R,.sl false false .bool g.L,slW W,slU M,.v (.int .i64 s.1)]),.dead,.live (.box 4 [.v (.bool s.2.2)]),.live (.box 90 [slQ X]),.live (.box 3 [.v (.int .i64 0)]),.live (.box 3 [.v (.int .i64 c)]),.live (.data 90 BT s.2.1)]):=by
 intro zs
 have hXl:=hX.1
 induction zs with
 |nil=>
  intro s h1 h2 h3 h4 r hr
  simp only[kidsF] at hr
  rw[hr]
  exact rndsK_nil (by decide) (b127 g W M s.2.1 X s.1 s.2.2 c m (by omega) (by omega))
 |cons z zs ih=>
  intro s h1 h2 h3 h4 r hr
  obtain⟨seen,F,fb⟩:=s
  simp only at h1 h2 h4
  have hf:FxOk M.length seen (X++[(c,z)]):=(hX.snoc hcn z).mono (by omega)
  have c1:=hrec (X++[(c,z)]) (seen,F,fb) h1 h2 h3 hf
  have t:=runS_ok hc (X++[(c,z)]) (seen,F,fb) h3 h2 hf
  simp only[kidsF] at hr
  simp only at c1
  obtain⟨q,hq⟩:∃q,runS ⟨g,W,M⟩ (X++[(c,z)]) (seen,F,fb)=q:=⟨_,rfl⟩
  rw[hq] at hr c1 t
  have c2:=d132U X
  have tup:=t.up
  have tgr:=t.grow
  have hj:=j127 g W M q.2.2.1 X q.2.1 q.2.2.2 c m q.1
  simp only at tup tgr
  refine rndsK_cons spZ [1,2,3,4,7,8,10] (fun _=> [1,2,3,4,7,10,56]) (fun _=> [⟨1000020010,90,BT⟩]) 400 (.fork .stop .stop) (V:=fun GN GJ=>SameK [Item.beginRound,Item.code (rfB (FF u127 0))] [Item.beginRound,Item.code (rfB (FF u127 0))]∧Con Tryd.prog 132 [] [D.sl false false ((Ty.int .i64).prod (Ty.int .i64)) X] (D.sl false true ((Ty.int .i64).prod (Ty.int .i64)) X) [] []∧X=X∧1≠0∧roomy Tryd.prog 92 (X.length+1)∧Con Tryd.prog 127 [Row.box 125 [D.ptr 2 0 0],Row.box 159 [D.fn 127 [D.ptr 0 0 0,D.ptr 1 0 0]],Row.box 129 [D.fn 97 [D.ptr 4 0 0],D.v (Value.bool true),D.own 3 0 F.length none,D.v (Value.int .i64 (Pr.mk g W (Nt (Mi M))).g.h),D.v (Value.int .i64 (Pr.mk g W (Nt (Mi M))).g.w),D.sl false false Ty.bool (Pr.mk g W (Nt (Mi M))).g.B,D.sl false false Ty.bool (Pr.mk g W (Nt (Mi M))).g.R,D.sl false false Ty.bool (Pr.mk g W (Nt (Mi M))).g.L,D.sl false false (Ty.int .i64).sl (Pr.mk g W (Nt (Mi M))).W,D.sl false false (Ty.int .u64) (Mi (Pr.mk g W (Nt (Mi M))).M),D.v (Value.int .i64 seen)],Row.data 90 ((Ty.int .i64).prod (Ty.int .i64)).sl F,Row.box 4 [D.v (Value.bool fb)]] [D.sl false false ((Ty.int .i64).prod (Ty.int .i64)) (List.take (X.length+1) (List.drop 0 (X++List.take 1 (List.drop 0 [(c,z)])))),D.ptr 0 0 0,D.ptr 1 0 0] (D.v (Value.int .i64 (runS (Pr.mk g W (Nt (Mi M))) (List.take (X.length+1) (List.drop 0 (X++List.take 1 (List.drop 0 [(c,z)])))) (seen,F,fb)).fst)) [some (Row.box 125 [D.ptr 2 0 0]),some (Row.box 159 [D.fn 127 [D.ptr 0 0 0,D.ptr 1 0 0]]),some (Row.box 129 [D.fn 97 [D.ptr 4 0 0],D.v (Value.bool true),D.own 5 0 (runS (Pr.mk g W (Nt (Mi M))) (List.take (X.length+1) (List.drop 0 (X++List.take 1 (List.drop 0 [(c,z)])))) (seen,F,fb)).snd.snd.fst.length none,D.v (Value.int .i64 (Pr.mk g W (Nt (Mi M))).g.h),D.v (Value.int .i64 (Pr.mk g W (Nt (Mi M))).g.w),D.sl false false Ty.bool (Pr.mk g W (Nt (Mi M))).g.B,D.sl false false Ty.bool (Pr.mk g W (Nt (Mi M))).g.R,D.sl false false Ty.bool (Pr.mk g W (Nt (Mi M))).g.L,D.sl false false (Ty.int .i64).sl (Pr.mk g W (Nt (Mi M))).W,D.sl false false (Ty.int .u64) (Mi (Pr.mk g W (Nt (Mi M))).M),D.v (Value.int .i64 (runS (Pr.mk g W (Nt (Mi M))) (List.take (X.length+1) (List.drop 0 (X++List.take 1 (List.drop 0 [(c,z)])))) (seen,F,fb)).snd.fst)]),none,some (Row.box 4 [D.v (Value.bool (runS (Pr.mk g W (Nt (Mi M))) (List.take (X.length+1) (List.drop 0 (X++List.take 1 (List.drop 0 [(c,z)])))) (seen,F,fb)).snd.snd.snd)])] [Row.data 90 ((Ty.int .i64).prod (Ty.int .i64)).sl (runS (Pr.mk g W (Nt (Mi M))) (List.take (X.length+1) (List.drop 0 (X++List.take 1 (List.drop 0 [(c,z)])))) (seen,F,fb)).snd.snd.fst]∧List.take (X.length+1) (List.drop 0 (X++List.take 1 (List.drop 0 [(c,z)])))=List.take (X.length+1) (List.drop 0 (X++List.take 1 (List.drop 0 [(c,z)])))∧0=0∧0=0∧0=0∧1=1∧0=0∧0=0∧some (Row.box 125 [D.ptr 2 0 0])=some (Row.box 125 [D.ptr 2 0 0])∧some (Row.box 159 [D.fn 127 [D.ptr 0 0 0,D.ptr 1 0 0]])=some (Row.box 159 [D.fn 127 [D.ptr 0 0 0,D.ptr 1 0 0]])∧some (Row.box 129 [D.fn 97 [D.ptr 4 0 0],D.v (Value.bool true),D.own 8 0 F.length none,D.v (Value.int .i64 g.h),D.v (Value.int .i64 g.w),D.sl false false Ty.bool g.B,D.sl false false Ty.bool g.R,D.sl false false Ty.bool g.L,D.sl false false (Ty.int .i64).sl W,D.sl false false (Ty.int .u64) (Mi M),D.v (Value.int .i64 seen)])=some (Row.box 129 [D.fn 97 [D.ptr 4 0 0],D.v (Value.bool true),D.own 8 0 F.length none,D.v (Value.int .i64 (Pr.mk g W (Nt (Mi M))).g.h),D.v (Value.int .i64 (Pr.mk g W (Nt (Mi M))).g.w),D.sl false false Ty.bool (Pr.mk g W (Nt (Mi M))).g.B,D.sl false false Ty.bool (Pr.mk g W (Nt (Mi M))).g.R,D.sl false false Ty.bool (Pr.mk g W (Nt (Mi M))).g.L,D.sl false false (Ty.int .i64).sl (Pr.mk g W (Nt (Mi M))).W,D.sl false false (Ty.int .u64) (Mi (Pr.mk g W (Nt (Mi M))).M),D.v (Value.int .i64 seen)])∧some (Row.data 90 ((Ty.int .i64).prod (Ty.int .i64)).sl F)=some (Row.data 90 ((Ty.int .i64).prod (Ty.int .i64)).sl F)∧some (Row.box 4 [D.v (Value.bool fb)])=some (Row.box 4 [D.v (Value.bool fb)])∧(((runS (Pr.mk g W (Nt (Mi M))) (List.take (X.length+1) (List.drop 0 (X++List.take 1 (List.drop 0 [(c,z)])))) (seen,F,fb)).fst !=(0:Int))=true→GJ Code.ret (stOf 73 [1,2,3,4,7,10,56] [D.ptr 0 0 0,D.ptr 1 0 0,D.ptr 5 0 0,D.ptr 6 0 0,D.ptr 7 0 0,D.ptr 2 0 0,D.fn 72 [D.rptr [D.v (Value.int .u64 (↑m:Int))]]] [Slot.live (Row.box 125 [D.ptr 2 0 0]),Slot.live (Row.box 159 [D.fn 127 [D.ptr 0 0 0,D.ptr 1 0 0]]),Slot.live (Row.box 129 [D.fn 97 [D.ptr 4 0 0],D.v (Value.bool true),D.own 8 0 (runS (Pr.mk g W (Nt (Mi M))) (List.take (X.length+1) (List.drop 0 (X++List.take 1 (List.drop 0 [(c,z)])))) (seen,F,fb)).snd.snd.fst.length none,D.v (Value.int .i64 (Pr.mk g W (Nt (Mi M))).g.h),D.v (Value.int .i64 (Pr.mk g W (Nt (Mi M))).g.w),D.sl false false Ty.bool (Pr.mk g W (Nt (Mi M))).g.B,D.sl false false Ty.bool (Pr.mk g W (Nt (Mi M))).g.R,D.sl false false Ty.bool (Pr.mk g W (Nt (Mi M))).g.L,D.sl false false (Ty.int .i64).sl (Pr.mk g W (Nt (Mi M))).W,D.sl false false (Ty.int .u64) (Mi (Pr.mk g W (Nt (Mi M))).M),D.v (Value.int .i64 (runS (Pr.mk g W (Nt (Mi M))) (List.take (X.length+1) (List.drop 0 (X++List.take 1 (List.drop 0 [(c,z)])))) (seen,F,fb)).snd.fst)]),Slot.dead,Slot.live (Row.box 4 [D.v (Value.bool (runS (Pr.mk g W (Nt (Mi M))) (List.take (X.length+1) (List.drop 0 (X++List.take 1 (List.drop 0 [(c,z)])))) (seen,F,fb)).snd.snd.snd)]),Slot.live (Row.box 90 [D.sl false false ((Ty.int .i64).prod (Ty.int .i64)) X]),Slot.live (Row.box 3 [D.v (Value.int .i64 (runS (Pr.mk g W (Nt (Mi M))) (List.take (X.length+1) (List.drop 0 (X++List.take 1 (List.drop 0 [(c,z)])))) (seen,F,fb)).fst)]),Slot.live (Row.box 3 [D.v (Value.int .i64 c)]),Slot.live (Row.data 90 ((Ty.int .i64).prod (Ty.int .i64)).sl (List.take (runS (Pr.mk g W (Nt (Mi M))) (List.take (X.length+1) (List.drop 0 (X++List.take 1 (List.drop 0 [(c,z)])))) (seen,F,fb)).snd.snd.fst.length (List.drop 0 (runS (Pr.mk g W (Nt (Mi M))) (List.take (X.length+1) (List.drop 0 (X++List.take 1 (List.drop 0 [(c,z)])))) (seen,F,fb)).snd.snd.fst)))]))∧(((runS (Pr.mk g W (Nt (Mi M))) (List.take (X.length+1) (List.drop 0 (X++List.take 1 (List.drop 0 [(c,z)])))) (seen,F,fb)).fst !=(0:Int))=false→GN (stOf 73 [1,2,3,4,7,10,56] [D.ptr 0 0 0,D.ptr 1 0 0,D.ptr 5 0 0,D.ptr 6 0 0,D.ptr 7 0 0,D.ptr 2 0 0,D.fn 72 [D.rptr [D.v (Value.int .u64 (↑m:Int))]]] [Slot.live (Row.box 125 [D.ptr 2 0 0]),Slot.live (Row.box 159 [D.fn 127 [D.ptr 0 0 0,D.ptr 1 0 0]]),Slot.live (Row.box 129 [D.fn 97 [D.ptr 4 0 0],D.v (Value.bool true),D.own 8 0 (runS (Pr.mk g W (Nt (Mi M))) (List.take (X.length+1) (List.drop 0 (X++List.take 1 (List.drop 0 [(c,z)])))) (seen,F,fb)).snd.snd.fst.length none,D.v (Value.int .i64 (Pr.mk g W (Nt (Mi M))).g.h),D.v (Value.int .i64 (Pr.mk g W (Nt (Mi M))).g.w),D.sl false false Ty.bool (Pr.mk g W (Nt (Mi M))).g.B,D.sl false false Ty.bool (Pr.mk g W (Nt (Mi M))).g.R,D.sl false false Ty.bool (Pr.mk g W (Nt (Mi M))).g.L,D.sl false false (Ty.int .i64).sl (Pr.mk g W (Nt (Mi M))).W,D.sl false false (Ty.int .u64) (Mi (Pr.mk g W (Nt (Mi M))).M),D.v (Value.int .i64 (runS (Pr.mk g W (Nt (Mi M))) (List.take (X.length+1) (List.drop 0 (X++List.take 1 (List.drop 0 [(c,z)])))) (seen,F,fb)).snd.fst)]),Slot.dead,Slot.live (Row.box 4 [D.v (Value.bool (runS (Pr.mk g W (Nt (Mi M))) (List.take (X.length+1) (List.drop 0 (X++List.take 1 (List.drop 0 [(c,z)])))) (seen,F,fb)).snd.snd.snd)]),Slot.live (Row.box 90 [D.sl false false ((Ty.int .i64).prod (Ty.int .i64)) X]),Slot.live (Row.box 3 [D.v (Value.int .i64 (0:Int))]),Slot.live (Row.box 3 [D.v (Value.int .i64 c)]),Slot.live (Row.data 90 ((Ty.int .i64).prod (Ty.int .i64)).sl (List.take (runS (Pr.mk g W (Nt (Mi M))) (List.take (X.length+1) (List.drop 0 (X++List.take 1 (List.drop 0 [(c,z)])))) (seen,F,fb)).snd.snd.fst.length (List.drop 0 (runS (Pr.mk g W (Nt (Mi M))) (List.take (X.length+1) (List.drop 0 (X++List.take 1 (List.drop 0 [(c,z)])))) (seen,F,fb)).snd.snd.fst)))]))) hmG (by decide) (by rfl) (fun GN GJ=>by kernel_rfl) ?_
  simp only[Nt_Mi,take_len,List.drop_zero,List.take_length,Mi_getD,Mi_len,Nt_Mi,Int.toNat_natCast,Mi_set,Nat.zero_add,Nat.sub_zero,List.length_set,take_one,takeSn,List.take_zero,List.nil_append,List.length_append,List.length_cons,List.length_nil,Mi_take,hq]
  by_cases h0:q.1=0
  ·rw[if_pos h0] at hr
   have hg:=ih q.2 (by omega) (t.more h0) t.ok (by omega) r hr
   rw[h0] at c1 hj
   simp only[h0]
   simp (disch:=omega) only[oo,oop,ne_eq,Ty.dflt,reduceCtorEq]
   repeat' (first|with_reducible refine And.intro ?_ ?_|intro _)
   all_goals first|rfl|omega|assumption|trivial|exact room92 (by omega)|(exfalso;simp_all;done)|(exfalso;omega)|skip
  ·rw[if_neg h0] at hr
   rw[hr]
   simp (disch:=omega) only[oo,oop,ne_eq,Ty.dflt,reduceCtorEq]
   repeat' (first|with_reducible refine And.intro ?_ ?_|intro _)
   all_goals first|rfl|omega|assumption|trivial|exact room92 (by omega)|(exfalso;simp_all;done)|(exfalso;omega)|skip
theorem s127 (g:Gr) (W:List (List Int)) (M:List Nat) (hc:checkP ⟨g,W,M⟩=0) (hM:Smalls M) (X:List (Int×Int)) (s:RunS) (h2:s.1≤66000) (h3:RunOk M.length s) (h4:FxOk M.length s.1 X) (hrec:∀(X':List (Int×Int)) (s':RunS),s.1<s'.1→s'.1≤66000→RunOk M.length s'→FxOk M.length s'.1 X'→Con Tryd.prog 127 [.box 125 [.ptr 2 0 0],.box 159 [.fn 127 [.ptr 0 0 0,.ptr 1 0 0]],.box 129 [.fn 97 [.ptr 4 0 0],.v (.bool true),.own 3 0 s'.2.1.length none,.v (.int .i64 g.h),.v (.int .i64 g.w),.sl false false .bool g.B,.sl false false .bool g.R,.sl false false .bool g.L,slW W,slU M,.v (.int .i64 s'.1)],.data 90 BT s'.2.1,.box 4 [.v (.bool s'.2.2)]] [slQ X',.ptr 0 0 0,.ptr 1 0 0] (.v (.int .i64 (runS ⟨g,W,M⟩ X' s').1)) [some (.box 125 [.ptr 2 0 0]),some (.box 159 [.fn 127 [.ptr 0 0 0,.ptr 1 0 0]]),some (.box 129 [.fn 97 [.ptr 4 0 0],.v (.bool true),.own 5 0 (runS ⟨g,W,M⟩ X' s').2.2.1.length none,.v (.int .i64 g.h),.v (.int .i64 g.w),.sl false false .bool g.B,.sl false false .bool g.R,.sl false false .bool g.L,slW W,slU M,.v (.int .i64 (runS ⟨g,W,M⟩ X' s').2.1)]),none,some (.box 4 [.v (.bool (runS ⟨g,W,M⟩ X' s').2.2.2)])] [.data 90 BT (runS ⟨g,W,M⟩ X' s').2.2.1]):Con Tryd.prog 127 [.box 125 [.ptr 2 0 0],.box 159 [.fn 127 [.ptr 0 0 0,.ptr 1 0 0]],.box 129 [.fn 97 [.ptr 4 0 0],.v (.bool true),.own 3 0 s.2.1.length none,.v (.int .i64 g.h),.v (.int .i64 g.w),.sl false false .bool g.B,.sl false false .bool g.R,.sl false false .bool g.L,slW W,slU M,.v (.int .i64 s.1)],.data 90 BT s.2.1,.box 4 [.v (.bool s.2.2)]] [slQ X,.ptr 0 0 0,.ptr 1 0 0] (.v (.int .i64 (runS ⟨g,W,M⟩ X s).1)) [some (.box 125 [.ptr 2 0 0]),some (.box 159 [.fn 127 [.ptr 0 0 0,.ptr 1 0 0]]),some (.box 129 [.fn 97 [.ptr 4 0 0],.v (.bool true),.own 5 0 (runS ⟨g,W,M⟩ X s).2.2.1.length none,.v (.int .i64 g.h),.v (.int .i64 g.w),.sl false false .bool g.B,.sl false false .bool g.R,.sl false false .bool g.L,slW W,slU M,.v (.int .i64 (runS ⟨g,W,M⟩ X s).2.1)]),none,some (.box 4 [.v (.bool (runS ⟨g,W,M⟩ X s).2.2.2)])] [.data 90 BT (runS ⟨g,W,M⟩ X s).2.2.1]:=by
 obtain⟨seen,F,fb⟩:=s
 simp only at h2 hrec
 have hp:=h3.pos
 have hl:=h3.len
 have hXl:=h4.1
 simp only at hp hl hXl
 obtain⟨r,hr⟩:∃r,runS ⟨g,W,M⟩ X (seen,F,fb)=r:=⟨_,rfl⟩
 rw[hr]
 rw[runS_eq] at hr
 have k1:IntKind.i64.wrap (seen+1)=seen+1:=wrG (by omega) (by omega)
 simp only[runB] at hr
 refine con_vc (how:=[none]) (c:=u127) (K:=(KX u127)) spZ (fun k=>if k=100 then [1,2,3,4,7,10,56] else [1,2,3,4,7,10]) (fun _=> [⟨1000020010,90,BT⟩]) 400 (.fork .stop (.fork .stop (.fork (.fork .stop .stop) (.cut 100)))) (V:=fun G R=>let yy0:=(Nt (List.take (spreadG (Pr.mk g W (Nt (Mi M))) X (List.take F.length (List.drop 0 F))).fst.length (List.drop 0 (Mi (spreadG (Pr.mk g W (Nt (Mi M))) X (List.take F.length (List.drop 0 F))).fst))));let yy1:=(Pr.mk g W (Nt (Mi M)));let yy2:=(Row.box 129 [D.fn 97 [D.ptr 4 0 0],D.v (Value.bool true),D.own 5 0 F.length none,D.v (Value.int .i64 g.h),D.v (Value.int .i64 g.w),D.sl false false Ty.bool g.B,D.sl false false Ty.bool g.R,D.sl false false Ty.bool g.L,D.sl false false (Ty.int .i64).sl W,D.sl false false (Ty.int .u64) (Mi M),D.v (Value.int .i64 (IntKind.i64.wrap (seen+(1:Int))))]);let yy3:=(spreadG yy1 X (List.take F.length (List.drop 0 F)));let yy4:=(Ty.int .i64);let yy5:=((Mi yy3.fst).getD (0+(findU (0:Int) yy0).toNat) (Ty.int .u64).dflt);let yy6:=(Value.int .i64 (IntKind.i64.wrap (seen+(1:Int))));let yy7:=(Row.box 4 [D.v (Value.bool fb)]);let yy8:=(Row.box 159 [D.fn 127 [D.ptr 0 0 0,D.ptr 1 0 0]]);let yy9:=(Ty.int .u64);(decide (IntKind.i64.wrap (seen+(1:Int))>(66000:Int))=true→R (D.v (Value.int .i64 (2:Int)),[some (Row.box 125 [D.ptr 2 0 0]),some yy8,some yy2,none,some yy7],[Row.data 90 (yy4.prod yy4).sl (List.take F.length (List.drop 0 F))]))∧(decide (IntKind.i64.wrap (seen+(1:Int))>(66000:Int))=false→Con Tryd.prog 92 [] [D.agg [D.v (Value.int .i64 yy1.g.h),D.v (Value.int .i64 yy1.g.w),D.sl false false Ty.bool yy1.g.B,D.sl false false Ty.bool yy1.g.R,D.sl false false Ty.bool yy1.g.L,D.sl false false yy4.sl yy1.W,D.sl false false yy9 (Mi yy1.M)],D.sl false false (yy4.prod yy4) X,D.sl false false (yy4.prod yy4).sl (List.take F.length (List.drop 0 F))] (D.tup [D.own 0 0 yy3.fst.length none,D.v (Value.bool yy3.snd)]) [] [Row.data 22 yy9 (Mi yy3.fst)]∧Value.int .i64 g.h=Value.int .i64 yy1.g.h∧Value.int .i64 g.w=Value.int .i64 yy1.g.w∧g.B=yy1.g.B∧g.R=yy1.g.R∧g.L=yy1.g.L∧W=yy1.W∧Mi M=Mi yy1.M∧X=X∧List.take F.length (List.drop 0 F)=List.take F.length (List.drop 0 F)∧((!yy3.snd)=true→Con Tryd.prog 128 [Row.box 129 [D.fn 97 [D.ptr 2 0 0],D.v (Value.bool true),D.own 1 0 F.length none,D.v (Value.int .i64 yy1.g.h),D.v (Value.int .i64 yy1.g.w),D.sl false false Ty.bool yy1.g.B,D.sl false false Ty.bool yy1.g.R,D.sl false false Ty.bool yy1.g.L,D.sl false false yy4.sl yy1.W,D.sl false false yy9 (Mi yy1.M),D.v yy6],Row.data 90 (yy4.prod yy4).sl F,Row.box 4 [D.v (Value.bool fb)]] [D.ptr 0 0 0,D.sl false false (yy4.prod yy4) X] (D.tup []) [some (Row.box 129 [D.fn 97 [D.ptr 2 0 0],D.v (Value.bool true),D.own 3 0 (F.length+1) none,D.v (Value.int .i64 yy1.g.h),D.v (Value.int .i64 yy1.g.w),D.sl false false Ty.bool yy1.g.B,D.sl false false Ty.bool yy1.g.R,D.sl false false Ty.bool yy1.g.L,D.sl false false yy4.sl yy1.W,D.sl false false yy9 (Mi yy1.M),D.v yy6]),none,some yy7] [Row.data 90 (yy4.prod yy4).sl (F++[X])]∧2=2∧0=0∧0=0∧X=X∧some (Row.box 129 [D.fn 97 [D.ptr 4 0 0],D.v (Value.bool true),D.own 3 0 F.length none,D.v (Value.int .i64 g.h),D.v (Value.int .i64 g.w),D.sl false false Ty.bool g.B,D.sl false false Ty.bool g.R,D.sl false false Ty.bool g.L,D.sl false false yy4.sl W,D.sl false false yy9 (Mi M),D.v yy6])=some (Row.box 129 [D.fn 97 [D.ptr 4 0 0],D.v (Value.bool true),D.own 3 0 F.length none,D.v (Value.int .i64 yy1.g.h),D.v (Value.int .i64 yy1.g.w),D.sl false false Ty.bool yy1.g.B,D.sl false false Ty.bool yy1.g.R,D.sl false false Ty.bool yy1.g.L,D.sl false false yy4.sl yy1.W,D.sl false false yy9 (Mi yy1.M),D.v yy6])∧some (Row.data 90 (yy4.prod yy4).sl F)=some (Row.data 90 (yy4.prod yy4).sl F)∧some yy7=some yy7∧R (D.v (Value.int .i64 (0:Int)),[some (Row.box 125 [D.ptr 2 0 0]),some yy8,some (Row.box 129 [D.fn 97 [D.ptr 4 0 0],D.v (Value.bool true),D.own 5 0 (F.length+1) none,D.v (Value.int .i64 yy1.g.h),D.v (Value.int .i64 yy1.g.w),D.sl false false Ty.bool yy1.g.B,D.sl false false Ty.bool yy1.g.R,D.sl false false Ty.bool yy1.g.L,D.sl false false yy4.sl yy1.W,D.sl false false yy9 (Mi yy1.M),D.v yy6]),none,some yy7],[Row.data 90 (yy4.prod yy4).sl (List.take (F.length+1) (List.drop 0 (F++[X])))]))∧((!yy3.snd)=false→Con Tryd.prog 129 [] [D.sl false false yy9 (Mi yy0),D.fn 130 []] (D.v (Value.int .i64 (findU (0:Int) yy0))) [] []∧List.take yy3.fst.length (List.drop 0 (Mi yy3.fst))=Mi yy0∧(decide (findU (0:Int) yy0< (0:Int))=true→Con Tryd.prog 131 [] [D.sl false false yy9 (Mi yy0)] (D.own 0 0 (lettersF yy0).length (some (lettersF yy0).length)) [] [Row.data 3 yy4 (lettersF yy0)]∧List.take yy3.fst.length (List.drop 0 (Mi yy3.fst))=Mi yy0∧Con Tryd.prog 97 [Row.box 4 [D.v (Value.bool fb)]] [D.sl false false yy4 (List.take (lettersF yy0).length (List.drop 0 (lettersF yy0))),D.ptr 0 0 0] (D.v (Value.bool false)) [some (Row.box 4 [D.v (Value.bool true)])] []∧List.take (lettersF yy0).length (List.drop 0 (lettersF yy0))=List.take (lettersF yy0).length (List.drop 0 (lettersF yy0))∧4=4∧0=0∧0=0∧some yy7=some yy7∧((!false)=true→R (D.v (Value.int .i64 (1:Int)),[some (Row.box 125 [D.ptr 2 0 0]),some yy8,some yy2,none,some (Row.box 4 [D.v (Value.bool true)])],[Row.data 90 (yy4.prod yy4).sl (List.take F.length (List.drop 0 F))]))∧((!false)=false→R (D.v (Value.int .i64 (0:Int)),[some (Row.box 125 [D.ptr 2 0 0]),some yy8,some yy2,none,some (Row.box 4 [D.v (Value.bool true)])],[Row.data 90 (yy4.prod yy4).sl (List.take F.length (List.drop 0 F))])))∧(decide (findU (0:Int) yy0< (0:Int))=false→(0:Int)≤findU (0:Int) yy0∧findU (0:Int) yy0< (↑yy3.fst.length:Int)∧0+(findU (0:Int) yy0).toNat< (Mi yy3.fst).length∧Con Tryd.prog 21 [] [D.v (Value.int .u64 yy5)] (D.fn 72 [D.rptr [D.v (Value.int .u64 yy5)]]) [] []∧Value.int .u64 yy5=Value.int .u64 yy5∧SameK (KX u127 100) (KX u127 100)∧G 100 (stOf 73 [1,2,3,4,7,10,56] [D.ptr 0 0 0,D.ptr 1 0 0,D.ptr 5 0 0,D.ptr 6 0 0,D.ptr 7 0 0,D.ptr 2 0 0,D.fn 72 [D.rptr [D.v (Value.int .u64 yy5)]]] [Slot.live (Row.box 125 [D.ptr 2 0 0]),Slot.live yy8,Slot.live (Row.box 129 [D.fn 97 [D.ptr 4 0 0],D.v (Value.bool true),D.own 8 0 F.length none,D.v (Value.int .i64 g.h),D.v (Value.int .i64 g.w),D.sl false false Ty.bool g.B,D.sl false false Ty.bool g.R,D.sl false false Ty.bool g.L,D.sl false false yy4.sl W,D.sl false false yy9 (Mi M),D.v yy6]),Slot.dead,Slot.live yy7,Slot.live (Row.box 90 [D.sl false false (yy4.prod yy4) X]),Slot.live (Row.box 3 [D.v (Value.int .i64 (0:Int))]),Slot.live (Row.box 3 [D.v (Value.int .i64 (findU (0:Int) yy0))]),Slot.live (Row.data 90 (yy4.prod yy4).sl (List.take F.length (List.drop 0 F)))]))))) hmG Tryd.func127 (by kernel_rfl) (by kernel_rfl) (fun G R=>by kernel_rfl) ?_
 try dsimp only
 try dsimp only
 simp only[Nt_Mi,take_len,List.drop_zero,List.take_length,Mi_getD,Mi_len,Nt_Mi,Int.toNat_natCast,Mi_set,Nat.zero_add,Nat.sub_zero,List.length_set,take_one,takeSn,List.take_zero,List.nil_append,List.length_append,List.length_cons,List.length_nil,Mi_take,k1]
 by_cases hs:seen+1>66000
 ·have w:decide (seen+1>66000)=true:=decide_eq_true hs
  rw[if_pos hs] at hr
  subst hr
  simp only[w]
  simp (disch:=omega) only[oo,oop,ne_eq,Ty.dflt,reduceCtorEq]
  repeat' (first|with_reducible refine And.intro ?_ ?_|intro _)
  all_goals first|rfl|omega|assumption|trivial|exact room92 (by omega)|(exfalso;simp_all;done)|(exfalso;omega)|skip
 ·have w:decide (seen+1>66000)=false:=decide_eq_false hs
  rw[if_neg hs] at hr
  have c92:=d92 g W M X F hc hM (by omega) h4.2 (by omega) (fun l h=>⟨by have:=(h3.each l h).1;omega,(h3.each l h).2⟩)
  have hsl:=spreadG_len hc X F
  have hss:=spreadG_small hc hM X F
  have hml:=(right_fits hc hM).2.1
  obtain⟨q,hq⟩:∃q,spreadG ⟨g,W,M⟩ X F=q:=⟨_,rfl⟩
  rw[hq] at c92 hsl hss
  simp only[hq] at hr
  simp only at hsl
  have c129:=d129U q.1 hss (by omega)
  have c128:=d128U g W M F X (seen+1) fb (by omega) (by omega)
  have c131:=d131U q.1 hss (by omega)
  have c97:=d97U (lettersF q.1) fb
  by_cases ho:q.2=true
  ·rw[if_pos ho] at hr
   rw[ho] at c92
   by_cases hf:findU 0 q.1<0
   ·rw[if_pos hf] at hr
    subst hr
    have w2:decide (findU 0 q.1<0)=true:=decide_eq_true hf
    simp only[w,hq,ho,w2,Bool.not_true,Bool.not_false]
    simp (disch:=omega) only[oo,oop,ne_eq,Ty.dflt,reduceCtorEq]
    repeat' (first|with_reducible refine And.intro ?_ ?_|intro _)
    all_goals first|rfl|omega|assumption|trivial|exact room92 (by omega)|(exfalso;simp_all;done)|(exfalso;omega)|skip
   ·rw[if_neg hf] at hr
    have w2:decide (findU 0 q.1<0)=false:=decide_eq_false hf
    have hcn:0≤findU 0 q.1∧findU 0 q.1<M.length:=by
     rcases findU_at q.1 0 (by omega) with⟨e,_⟩|⟨j,e,hj,_,_⟩
     ·omega
     ·omega
    have hms:=hss.at (findU 0 q.1).toNat
    have hg:=y127 g W M hc hM X (findU 0 q.1) hcn (q.1.getD (findU 0 q.1).toNat 0) seen h4 h2 hrec (listN (q.1.getD (findU 0 q.1).toNat 0)) (seen+1,F,fb) (by simp only;omega) (by simp only;omega) ⟨by simp only;omega,by simp only;omega,h3.each⟩ (by simp only;omega) r hr.symm
    have c21:=d21U (q.1.getD (findU 0 q.1).toNat 0)
    have hi:=it72 (q.1.getD (findU 0 q.1).toNat 0) hms
    unfold u64 at c21 hi
    simp only[w,hq,ho,w2,Bool.not_true,Bool.not_false,Ty.dflt,take_len,List.drop_zero,List.take_length,Mi_getD,Mi_len,Nt_Mi,Int.toNat_natCast,Mi_set,Nat.zero_add,Nat.sub_zero,List.length_set,take_one,takeSn,List.take_zero,List.nil_append,List.length_append,List.length_cons,List.length_nil,Mi_take]
    simp (disch:=omega) only[oo,oop,ne_eq,Ty.dflt,reduceCtorEq]
    repeat' (first|with_reducible refine And.intro ?_ ?_|intro _)
    all_goals first|rfl|omega|assumption|trivial|exact getsK_range (i:=0) (by decide) rfl rfl ⟨rfl,rfl⟩ hi hg|(exfalso;simp_all;done)|(exfalso;omega)|skip
  ·have ho':q.2=false:=by simpa using ho
   rw[if_neg ho] at hr
   rw[ho'] at c92
   subst hr
   simp only[w,hq,ho',Bool.not_true,Bool.not_false,take_len,List.drop_zero,List.take_length,Mi_getD,Mi_len,Nt_Mi,Int.toNat_natCast,Mi_set,Nat.zero_add,Nat.sub_zero,List.length_set,take_one,takeSn,List.take_zero,List.nil_append,List.length_append,List.length_cons,List.length_nil,Mi_take]
   simp (disch:=omega) only[oo,oop,ne_eq,Ty.dflt,reduceCtorEq]
   repeat' (first|with_reducible refine And.intro ?_ ?_|intro _)
   all_goals first|rfl|omega|assumption|trivial|exact room92 (by omega)|(exfalso;simp_all;done)|(exfalso;omega)|skip
theorem e127U (g:Gr) (W:List (List Int)) (M:List Nat) (hc:checkP ⟨g,W,M⟩=0) (hM:Smalls M) (N:Nat):∀(X:List (Int×Int)) (s:RunS),66000≤N+s.1→s.1≤66000→RunOk M.length s→FxOk M.length s.1 X→Con Tryd.prog 127 [.box 125 [.ptr 2 0 0],.box 159 [.fn 127 [.ptr 0 0 0,.ptr 1 0 0]],.box 129 [.fn 97 [.ptr 4 0 0],.v (.bool true),.own 3 0 s.2.1.length none,.v (.int .i64 g.h),.v (.int .i64 g.w),.sl false false .bool g.B,.sl false false .bool g.R,.sl false false .bool g.L,slW W,slU M,.v (.int .i64 s.1)],.data 90 BT s.2.1,.box 4 [.v (.bool s.2.2)]] [slQ X,.ptr 0 0 0,.ptr 1 0 0] (.v (.int .i64 (runS ⟨g,W,M⟩ X s).1)) [some (.box 125 [.ptr 2 0 0]),some (.box 159 [.fn 127 [.ptr 0 0 0,.ptr 1 0 0]]),some (.box 129 [.fn 97 [.ptr 4 0 0],.v (.bool true),.own 5 0 (runS ⟨g,W,M⟩ X s).2.2.1.length none,.v (.int .i64 g.h),.v (.int .i64 g.w),.sl false false .bool g.B,.sl false false .bool g.R,.sl false false .bool g.L,slW W,slU M,.v (.int .i64 (runS ⟨g,W,M⟩ X s).2.1)]),none,some (.box 4 [.v (.bool (runS ⟨g,W,M⟩ X s).2.2.2)])] [.data 90 BT (runS ⟨g,W,M⟩ X s).2.2.1]:=by
 induction N with
 |zero=>exact fun X s hN h2 h3 h4=>s127 g W M hc hM X s h2 h3 h4 fun X' s' a b=>by omega
 |succ N ih=>exact fun X s hN h2 h3 h4=>s127 g W M hc hM X s h2 h3 h4 fun X' s' a b c d=>ih X' s' (by omega) b c d
theorem d127U (g:Gr) (W:List (List Int)) (M:List Nat) (hc:checkP ⟨g,W,M⟩=0) (hM:Smalls M) (X:List (Int×Int)) (s:RunS) (h2:s.1≤66000) (h3:RunOk M.length s) (h4:FxOk M.length s.1 X):Con Tryd.prog 127 [.box 125 [.ptr 2 0 0],.box 159 [.fn 127 [.ptr 0 0 0,.ptr 1 0 0]],.box 129 [.fn 97 [.ptr 4 0 0],.v (.bool true),.own 3 0 s.2.1.length none,.v (.int .i64 g.h),.v (.int .i64 g.w),.sl false false .bool g.B,.sl false false .bool g.R,.sl false false .bool g.L,slW W,slU M,.v (.int .i64 s.1)],.data 90 BT s.2.1,.box 4 [.v (.bool s.2.2)]] [slQ X,.ptr 0 0 0,.ptr 1 0 0] (.v (.int .i64 (runS ⟨g,W,M⟩ X s).1)) [some (.box 125 [.ptr 2 0 0]),some (.box 159 [.fn 127 [.ptr 0 0 0,.ptr 1 0 0]]),some (.box 129 [.fn 97 [.ptr 4 0 0],.v (.bool true),.own 5 0 (runS ⟨g,W,M⟩ X s).2.2.1.length none,.v (.int .i64 g.h),.v (.int .i64 g.w),.sl false false .bool g.B,.sl false false .bool g.R,.sl false false .bool g.L,slW W,slU M,.v (.int .i64 (runS ⟨g,W,M⟩ X s).2.1)]),none,some (.box 4 [.v (.bool (runS ⟨g,W,M⟩ X s).2.2.2)])] [.data 90 BT (runS ⟨g,W,M⟩ X s).2.2.1]:=e127U g W M hc hM 66000 X s (by have:=h3.pos;omega) h2 h3 h4
end Go.Proofs.YtnakmganodkliaaDoorAm
namespace Go.Proofs.YtnakmganodkliaaDoorAm
open Go
def provF (p:Pr):List (List (Int×Int))×Int:=
 if checkP p=0 then
  (if(runS p [] (0,[],false)).2.2.2 then([],130)
   else if(runS p [] (0,[],false)).1=2∨(((runS p [] (0,[],false)).2.2.1.length:Nat):Int)>65000 then([],2)
   else((runS p [] (0,[],false)).2.2.1,0))
 else([],checkP p)
def spW2:Sp:=fun f args rd=>match f,args with
 |96,[.agg [.v (.int _ h),.v (.int _ w),b,r,l,ws,ms]]=>withP rd h w b r l ws ms fun p _=>some {f:=96,args:=[p.d],val:= .ptr 0 0 0,allocs:=[.box 129 [.v .nilFunc,.v (.bool false),.own 1 0 0 none,.v (.int .i64 p.g.h),.v (.int .i64 p.g.w),.sl false false .bool p.g.B,.sl false false .bool p.g.R,.sl false false .bool p.g.L,slW p.W,slU p.M,.v (.int .i64 0)],.data 90 BT []]}
 |59,[.agg [.v (.int _ h),.v (.int _ w),b,r,l,ws,ms]]=>withP rd h w b r l ws ms fun p _=>some {f:=59,args:=[p.d],val:= .tup [.own 0 0 (provF p).1.length none,.v (.int .i64 (provF p).2)],allocs:=[.data 90 BT (provF p).1]}
 |f,args=>spZ f args rd
end Go.Proofs.YtnakmganodkliaaDoorAm
namespace Go.Proofs.YtnakmganodkliaaDoorAm
open Go
theorem given_leq:∀(G:List (Int×Int)) (m:List Nat),Leq (givenF G m) m
 | [],m=>Leq.refl m
 |x::G,m=>by
  simp only[givenF]
  refine(given_leq G _).trans fun c i hi=> ?_
  unfold bitAt at hi⊢
  rw[getD_set_nat] at hi
  split at hi
  ·rename_i e
   rw[Nat.testBit_and,e.1,Bool.and_eq_true] at hi
   exact hi.1
  ·exact hi
theorem given_one:∀(G:List (Int×Int)) (m:List Nat),∀x∈G,∀i,bitAt (givenF G m) x.1.toNat i→x.2=(i:Int)
 | [],_,x,hx,_,_=>by simp at hx
 |y::G,m,x,hx,i,hi=>by
  simp only[givenF] at hi
  rcases List.mem_cons.1 hx with e|hx
  ·subst e
   have h1:=given_leq G _ _ i hi
   unfold bitAt at h1
   rw[getD_set_nat] at h1
   split at h1
   ·rw[Nat.testBit_and,Bool.and_eq_true,ofN_one] at h1
    exact bit_of_one h1.2
   ·rename_i hn
    by_cases hl:x.1.toNat<m.length
    ·exact absurd ⟨rfl,hl⟩ hn
    ·rw[List.getD_eq_getElem?_getD,List.getElem?_eq_none (by omega)] at h1
     simp at h1
  ·exact given_one G _ x hx i hi
theorem given_mono {M' M:List Nat} (hl:M'.length=M.length) (h:Leq M' M):∀(G:List (Int×Int)),Leq (givenF G M') (givenF G M):=by
 have key:∀(G:List (Int×Int)) (a b:List Nat),a.length=b.length→Leq a b→Leq (givenF G a) (givenF G b):=by
  intro G
  induction G with
  |nil=>exact fun a b _ h=>h
  |cons x G ih=>
   intro a b hl h
   simp only[givenF]
   refine ih _ _ (by rw[List.length_set,List.length_set,hl]) fun c i hi=> ?_
   unfold bitAt at hi⊢
   rw[getD_set_nat] at hi⊢
   rw[hl] at hi
   split at hi
   ·rename_i e
    rw[if_pos e]
    rw[Nat.testBit_and,Bool.and_eq_true] at hi⊢
    exact⟨h _ _ hi.1,hi.2⟩
   ·rename_i e
    rw[if_neg e]
    exact h c i hi
 exact fun G=>key G M' M hl h
theorem pass_leq:∀(B:List (List (Int×Int))) (m:List Nat) (st:Int),Leq (passF B m st).1 m
 | [],m,st=>Leq.refl m
 |l::ls,m,st=>by
  rw[pass_cons]
  split
  ·exact Leq.refl m
  ·split
   ·rename_i h1
    refine(pass_leq ls _ 1).trans fun c i hi=> ?_
    unfold bitAt letgo at hi
    unfold bitAt
    rw[getD_set_nat] at hi
    split at hi
    ·rename_i e
     obtain⟨e1,e2,e3,e4⟩:=has_sub (unit_one h1).2
     have hh:=has_lt (unit_one h1).2
     rw[e.1] at hi e3
     have hx:(m.getD c 0).testBit (unitF m l).2.2.toNat=true:=by
      have:=bit_at (unit_one h1).2
      unfold bitAt at this
      rwa [e.1] at this
     have hb:bitN (unitF m l).2.2=2^(unitF m l).2.2.toNat:=by unfold bitN;rw[if_neg (by omega)]
     have h2:(m.getD c 0^^^2^(unitF m l).2.2.toNat)+2^(unitF m l).2.2.toNat=m.getD c 0:=by
      rw[add_or (by rw[Nat.testBit_xor,hx,Nat.testBit_two_pow_self];rfl)]
      apply Nat.eq_of_testBit_eq
      intro k
      rw[Nat.testBit_or,Nat.testBit_xor,Nat.testBit_two_pow]
      by_cases e:(unitF m l).2.2.toNat=k
      ·rw[←e,hx];simp
      ·rw[decide_eq_false e];simp
     rw[hb,show m.getD c 0-2^(unitF m l).2.2.toNat=m.getD c 0^^^2^(unitF m l).2.2.toNat by omega,Nat.testBit_xor,Nat.testBit_two_pow] at hi
     by_cases e3:(unitF m l).2.2.toNat=i
     ·rw[←e3];exact hx
     ·rw[decide_eq_false e3,Bool.xor_false] at hi;exact hi
    ·exact hi
   ·exact pass_leq ls m st
theorem unit_012 (m:List Nat) (l:List (Int×Int)):(unitF m l).1=0∨(unitF m l).1=1∨(unitF m l).1=2:=by
 unfold unitF
 split
 ·rw[oneF_all]
  split
  ·simp
  ·split<;>simp
 ·simp
theorem pass_more:∀(B:List (List (Int×Int))) (m:List Nat),(passF B m 1).2=1∨(passF B m 1).2=2
 | [],m=> .inl rfl
 |l::ls,m=>by
  rw[pass_cons]
  split
  ·exact .inr rfl
  ·split
   ·exact pass_more ls _
   ·exact pass_more ls m
theorem pass_none:∀(B:List (List (Int×Int))) (m:List Nat),(passF B m 0).2≠2→(passF B m 0).2≠1→(passF B m 0).1=m∧∀l∈B,(unitF m l).1=0
 | [],m,_,_=>⟨rfl,fun l hl=>by simp at hl⟩
 |l::ls,m,h2,h1=>by
  rw[pass_cons] at h1 h2⊢
  by_cases u2:(unitF m l).1=2
  ·rw[if_pos u2] at h2;exact absurd rfl h2
  ·rw[if_neg u2] at h1 h2⊢
   by_cases u1:(unitF m l).1=1
   ·rw[if_pos u1] at h1 h2
    rcases pass_more ls (letgo m (unitF m l).2) with h|h
    ·exact absurd h h1
    ·exact absurd h h2
   ·rw[if_neg u1] at h1 h2⊢
    obtain⟨a,b⟩:=pass_none ls m h2 h1
    refine⟨a,fun k hk=> ?_⟩
    rcases List.mem_cons.1 hk with e|hk
    ·rw[e]
     rcases unit_012 m l with h|h|h
     ·exact h
     ·exact absurd h u1
     ·exact absurd h u2
    ·exact b k hk
theorem spread_clo {p:Pr} (hc:checkP p=0) {B:List (List (Int×Int))} (hB:∀l∈B,∀x∈l,0≤x.1∧x.1<p.M.length):∀(n:Nat) (q:List Nat),q.sum<n→q.length=p.M.length→Smalls q→Leq q p.M→(spreadF p.g p.W B n q).2=true→Clo p B (spreadF p.g p.W B n q).1∧Leq (spreadF p.g p.W B n q).1 q
 |0,q,h,_,_,_,_=>by omega
 |n+1,q,h,hq,hs,hl,ho=>by
  have hc':checkP ⟨p.g,p.W,q⟩=0:=by rw[again_check hq];exact hc
  have e:=narM_len ⟨p.g,p.W,q⟩ hc'
  simp only at e
  have hn:Smalls (narM ⟨p.g,p.W,q⟩):=nar_small hc' hs
  have hnl:Leq (narM ⟨p.g,p.W,q⟩) q:=nar_given hc'
  have hsum:(narM ⟨p.g,p.W,q⟩).sum≤q.sum:=sum_le e fun c=>sub_le fun i hi=>hnl c i hi
  have pf:=pass_facts p.M.length B (narM ⟨p.g,p.W,q⟩) 0 hB (by rw[e,hq]) hn
  simp only[spreadF] at ho⊢
  split at ho
  ·rename_i ho1
   rw[if_pos ho1]
   split at ho
   ·cases ho
   ·rename_i h2
    rw[if_neg h2]
    split at ho
    ·rename_i h1
     rw[if_pos h1]
     obtain⟨a,b⟩:=spread_clo hc hB n _ (by have:=pf.2.2.2 rfl h1;omega) pf.1 pf.2.1 (((pass_leq _ _ _).trans hnl).trans hl) ho
     exact⟨a,b.trans ((pass_leq _ _ _).trans hnl)⟩
    ·rename_i h1
     rw[if_neg h1]
     obtain⟨a,b⟩:=pass_none B _ h2 h1
     rw[a]
     refine⟨⟨by rw[e,hq],nar_stable hc',(nar_leq hc').trans (m0_mono hq hl),?_,b⟩,hnl⟩
     have:=ho1
     rw[narO_eq hc',narW_eq hc'] at this
     exact this
  ·cases ho
theorem Clo.sub {p:Pr} {B B':List (List (Int×Int))} {R:List Nat} (h:Clo p B R) (hs:∀l∈B',l∈B):Clo p B' R:=⟨h.len,h.st,h.lo,h.ok,fun l hl=>h.no l (hs l hl)⟩
theorem Clo.up {p:Pr} {M':List Nat} (hl:M'.length=p.M.length) (hM:Leq M' p.M) {B:List (List (Int×Int))} {R:List Nat} (h:Clo ⟨p.g,p.W,M'⟩ B R):Clo p B R:=⟨by rw[h.len];exact hl,h.st,h.lo.trans (m0_mono hl hM),h.ok,h.no⟩
def Good (p:Pr) (F:List (List (Int×Int))):Prop:=∀j,j<F.length→(F.getD j []).any (oddP (seatsF p.g).1 (seatsF p.g).2)=false∧(spreadG p (F.getD j []) (F.take j)).2=false
theorem good_check {p:Pr} (hc:checkP p=0) {F:List (List (Int×Int))} (hG:Good p F) (hl:F.length≤65000) (he:∃P,F=P++[[]]):checkR p F=(0,0):=by
 have key:∀(z:Nat) (i:Int),0≤i→i+z=F.length→checkN p (seatsF p.g).1 (seatsF p.g).2 F z i=(0,0):=by
  intro z
  induction z with
  |zero=>
   intro i i0 hi
   obtain⟨P,e⟩:=he
   simp only[checkN]
   rw[if_neg (by rw[e];simp),if_neg]
   rw[e,List.length_append,List.length_singleton,Nat.add_sub_cancel,List.getD_eq_getElem?_getD,List.getElem?_append_right (Nat.le_refl _),Nat.sub_self]
   simp
  |succ z ih=>
   intro i i0 hi
   obtain⟨g1,g2⟩:=hG i.toNat (by omega)
   simp only[checkN]
   rw[if_neg (by rw[g1];simp),if_neg (by rw[g2];simp)]
   exact ih (i+1) (by omega) (by omega)
 unfold checkR
 rw[if_pos hc,if_neg (by omega)]
 exact key F.length 0 (by omega) (by omega)
theorem getD_app {P:List (List (Int×Int))} {x:List (Int×Int)} {j:Nat} (hj:j<P.length):(P++[x]).getD j []=P.getD j []:=by
 rw[List.getD_eq_getElem?_getD,List.getD_eq_getElem?_getD,List.getElem?_append_left hj]
theorem Good.snoc {p:Pr} {F:List (List (Int×Int))} (h:Good p F) {fx:List (Int×Int)} (h1:fx.any (oddP (seatsF p.g).1 (seatsF p.g).2)=false) (h2:(spreadG p fx F).2=false):Good p (F++[fx]):=by
 intro j hj
 rw[List.length_append,List.length_singleton] at hj
 by_cases e:j=F.length
 ·subst e
  have e1:(F++[fx]).getD F.length []=fx:=by
   rw[List.getD_eq_getElem?_getD,List.getElem?_append_right (Nat.le_refl _),Nat.sub_self]
   rfl
  rw[e1,List.take_append_of_le_length (Nat.le_refl _),List.take_length]
  exact⟨h1,h2⟩
 ·rw[getD_app (by omega),List.take_append_of_le_length (by omega)]
  exact h j (by omega)
theorem Good.seated {p:Pr} (hc:checkP p=0) {F:List (List (Int×Int))} (h:Good p F):∀l∈F,∀x∈l,(0≤x.2∧x.2<64)∧0≤x.1∧seatedB (slotsF p.g) x.1.toNat=true:=by
 intro l hl
 obtain⟨j,hj,rfl⟩:=List.mem_iff_getElem.1 hl
 have:=(h j hj).1
 rw[List.getD_eq_getElem?_getD,List.getElem?_eq_getElem hj] at this
 exact seats_pair hc this
theorem seated_in {p:Pr} (hc:checkP p=0) {c:Nat} (h:seatedB (slotsF p.g) c=true):c<p.M.length:=by
 unfold seatedB at h
 rw[List.any_eq_true] at h
 obtain⟨s,hs,h⟩:=h
 rw[List.any_eq_true] at h
 obtain⟨z,hz,h⟩:=h
 rw[beq_iff_eq] at h
 have:=(cells_in hc hs z hz).2
 omega
theorem pair_seats {p:Pr} (hc:checkP p=0) {c i:Int} (c0:0≤c) (hs:seatedB (slotsF p.g) c.toNat=true) (hi:0≤i∧i<64):oddP (seatsF p.g).1 (seatsF p.g).2 (c,i)=false:=by
 have hin:=seated_in hc hs
 unfold seatedB at hs
 rw[List.any_eq_true] at hs
 obtain⟨s,hs,h⟩:=hs
 rw[List.any_eq_true] at h
 obtain⟨z,hz,h⟩:=h
 rw[beq_iff_eq] at h
 have ez:z=c:=by have:=(cells_in hc hs z hz).1;omega
 subst ez
 obtain⟨j,hj,e⟩:=List.mem_iff_getElem.1 hs
 obtain⟨k,hk,e2⟩:=List.mem_iff_getElem.1 hz
 obtain⟨s1,s2,s3,s4⟩:=seats_are (checkP_zero hc).1 c0
 have h4:=(checkP_zero hc).2.2.2
 have sit:Sits (slotsF p.g) s.2.1 z j k:=⟨s,by rw[List.getElem?_eq_getElem hj,e],rfl,hk,by rw[List.getD_eq_getElem?_getD,List.getElem?_eq_getElem hk];exact e2⟩
 have b:∀A:List (Int×Int),z.toNat<A.length→A.getD z.toNat (0,0)=A.getD z.toNat (-1,0):=fun A h=>by
  rw[List.getD_eq_getElem?_getD,List.getD_eq_getElem?_getD,List.getElem?_eq_getElem h];rfl
 unfold oddP pairOk
 simp only
 rw[b _ (by omega),b _ (by omega),decide_eq_true (show 0≤z∧z< ((seatsF p.g).1.length:Int)∧0≤i∧i≤63 by omega)]
 cases hd:s.2.1 with
 |false=>
  rw[hd] at sit
  have e3:=s1.1 j k sit
  unfold sAt at e3
  rw[e3,decide_eq_true (show(0:Int)≤((j:Int),(k:Int)).1 by simp only;omega)]
  rfl
 |true=>
  rw[hd] at sit
  have e3:=s2.1 j k sit
  unfold sAt at e3
  rw[e3,decide_eq_true (show(0:Int)≤((j:Int),(k:Int)).1 by simp only;omega),Bool.or_true]
  rfl
theorem bit_64 {m i:Nat} (hm:m<W64) (h:m.testBit i=true):i<64:=by
 rcases Nat.lt_or_ge i 64 with h1|h1
 ·exact h1
 ·have h2:(2:Nat)^i≤m:=Nat.ge_two_pow_of_testBit h
  have h3:(2:Nat)^64≤2^i:=Nat.pow_le_pow_right (by omega) h1
  have h4:(2:Nat)^64=W64:=by decide
  omega
theorem has_nat {m i:Nat}:hasN m ((i:Nat):Int)=true↔i<64∧m.testBit i=true:=by
 unfold hasN
 simp only[Bool.and_eq_true,decide_eq_true_eq,Int.toNat_natCast]
 exact⟨fun h=>⟨by omega,h.2.2⟩,fun h=>⟨by omega,by omega,h.2⟩⟩
theorem kids_fail {p:Pr} (hc:checkP p=0) (hM:Smalls p.M) {F0 F:List (List (Int×Int))} {fx:List (Int×Int)} (hF:Good p F) (hsub:∀l∈F0,l∈F) (hfx:fx.any (oddP (seatsF p.g).1 (seatsF p.g).2)=false) {c:Nat}
  (hcs:seatedB (slotsF p.g) c=true) (hk:∀i:Nat,bitAt (spreadG p fx F0).1 c i→fx++[((c:Int),(i:Int))]∈F):(spreadG p fx F).2=false:=by
 cases ho:(spreadG p fx F).2 with
 |false=>rfl
 |true=>
  exfalso
  have hseat:=hF.seated hc
  have hin:∀l∈F,∀x∈l,0≤x.1∧x.1<p.M.length:=fun l hl x hx=>by
   have:=hseat l hl x hx
   have:=seated_in hc this.2.2
   omega
  obtain⟨C,L⟩:=spread_clo hc hin _ _ (Nat.lt_succ_self _) (given_len fx p.M) (given_small fx hM) (given_leq fx p.M) ho
  have h0:=clo_spread hc (C.sub hsub) (fun l hl x hx=>(hseat l (hsub l hl) x hx).2.2) ((givenF fx p.M).sum+1) (givenF fx p.M) (given_len _ _) L
  obtain⟨i,hi,_⟩:=min_bit _ (ok_cell C.ok hcs)
  have hmem:=hk i (h0.2 c i hi)
  have hn:=C.no _ hmem
  have hfs:=seats_pair hc hfx
  have hall:∀x∈fx++[((c:Int),(i:Int))],hereB (spreadF p.g p.W F ((givenF fx p.M).sum+1) (givenF fx p.M)).1 x=true∧(openB (spreadF p.g p.W F ((givenF fx p.M).sum+1) (givenF fx p.M)).1 x=true→x=((c:Int),(i:Int))):=by
   intro x hx
   rcases List.mem_append.1 hx with hx|hx
   ·have hx1:=hfs x hx
    obtain⟨t,ht,_⟩:=min_bit _ (ok_cell C.ok hx1.2.2)
    have one:∀k,bitAt (spreadF p.g p.W F ((givenF fx p.M).sum+1) (givenF fx p.M)).1 x.1.toNat k→x.2=(k:Int):=fun k hk=>given_one fx p.M x hx k (L _ _ hk)
    have e1:=one t ht
    have e:(spreadF p.g p.W F ((givenF fx p.M).sum+1) (givenF fx p.M)).1.getD x.1.toNat 0=bitN x.2:=by
     have hb:bitN x.2=2^x.2.toNat:=by unfold bitN;rw[if_neg (by omega)]
     apply Nat.eq_of_testBit_eq
     intro k
     rw[hb,Nat.testBit_two_pow]
     by_cases e2:x.2.toNat=k
     ·subst e2
      rw[decide_eq_true rfl,show x.2.toNat=t by omega]
      exact ht
     ·rw[decide_eq_false e2]
      cases hkk:((spreadF p.g p.W F ((givenF fx p.M).sum+1) (givenF fx p.M)).1.getD x.1.toNat 0).testBit k with
      |false=>rfl
      |true=>
       have:=one k hkk
       omega
    refine⟨has_bit.2 ⟨hx1.1.1,hx1.1.2,?_⟩,fun h=> ?_⟩
    ·rw[show x.2.toNat=t by omega]
     exact ht
    ·unfold openB at h
     rw[e] at h
     simp at h
   ·rw[List.mem_singleton] at hx
    subst hx
    have hsm:=(spread_small hc F ((givenF fx p.M).sum+1) (givenF fx p.M) (given_len _ _) (given_small fx hM)).at c
    refine⟨has_bit.2 ⟨by simp only;omega,?_,hi⟩,fun _=>rfl⟩
    have:i<64:=bit_64 hsm hi
    simp only
    omega
  have hu:(unitF (spreadF p.g p.W F ((givenF fx p.M).sum+1) (givenF fx p.M)).1 (fx++[((c:Int),(i:Int))])).1≠0:=by
   unfold unitF
   rw[if_pos (List.all_eq_true.2 fun x hx=>(hall x hx).1),oneF_all]
   split
   ·simp
   ·rename_i hf
    rw[if_pos]
    ·simp
    ·refine List.all_eq_true.2 fun x hx=> ?_
     have hm:∀x∈(fx++[((c:Int),(i:Int))]).filter (openB (spreadF p.g p.W F ((givenF fx p.M).sum+1) (givenF fx p.M)).1),x=((c:Int),(i:Int)):=fun x hx=>(hall x (List.mem_filter.1 hx).1).2 (List.mem_filter.1 hx).2
     rw[beq_iff_eq,hm x hx,hm _ (getD_in (List.length_pos_iff.2 hf))]
  exact hu hn
structure Left (p:Pr) (fx:List (Int×Int)) (s:RunS) (r:Int×RunS):Prop where
 good:Good p r.2.2.1
 old:∀l∈s.2.1,l∈r.2.2.1
 last:r.1=0→∃P,r.2.2.1=P++[fx]
 flag:r.1≠1→r.2.2.2=s.2.2
 found:r.1=1→r.2.2.2=true
theorem kids_left {p:Pr} (hc:checkP p=0) (hM:Smalls p.M) {rec:List (Int×Int)→RunS→Int×RunS} {fx:List (Int×Int)} {F0:List (List (Int×Int))} {c:Nat} (hfx:fx.any (oddP (seatsF p.g).1 (seatsF p.g).2)=false)
  (hcs:seatedB (slotsF p.g) c=true) (h:∀fx s,Good p s.2.1→fx.any (oddP (seatsF p.g).1 (seatsF p.g).2)=false→Left p fx s (rec fx s)):∀(zs:List Int) (s:RunS),Good p s.2.1→(∀l∈F0,l∈s.2.1)→(∀z∈zs,0≤z∧z<64)→
  (∀i:Nat,bitAt (spreadG p fx F0).1 c i→((i:Nat):Int)∈zs∨fx++[((c:Int),(i:Int))]∈s.2.1)→Left p fx s (kidsF rec fx c zs s)
 | [],s,h1,h2,h3,h4=>by
  simp only[kidsF]
  refine⟨h1.snoc hfx (kids_fail hc hM h1 h2 hfx hcs fun i hi=>(h4 i hi).resolve_left (by simp)),fun l hl=>List.mem_append_left _ hl,fun _=>⟨_,rfl⟩,fun _=>rfl,fun e=>absurd e (by simp)⟩
 |z::zs,s,h1,h2,h3,h4=>by
  have hz:=h3 z List.mem_cons_self
  have hfx':(fx++[((c:Int),z)]).any (oddP (seatsF p.g).1 (seatsF p.g).2)=false:=by
   rw[List.any_append,hfx,Bool.false_or,List.any_cons,List.any_nil,Bool.or_false]
   exact pair_seats hc (by omega) (by rw[Int.toNat_natCast];exact hcs) hz
  have q:=h _ s h1 hfx'
  simp only[kidsF]
  split
  ·rename_i h0
   obtain⟨P,hP⟩:=q.last h0
   have k:=kids_left hc hM hfx hcs h zs (rec (fx++[((c:Int),z)]) s).2 q.good (fun l hl=>q.old l (h2 l hl)) (fun y hy=>h3 y (List.mem_cons_of_mem _ hy)) (fun i hi=>by
    rcases h4 i hi with e|e
    ·rcases List.mem_cons.1 e with e|e
     ·refine .inr ?_
      rw[e,hP]
      exact List.mem_append_right _ List.mem_cons_self
     ·exact .inl e
    ·exact .inr (q.old _ e))
   exact⟨k.good,fun l hl=>k.old l (q.old l hl),k.last,fun e=>(k.flag e).trans (q.flag (by omega)),k.found⟩
  ·rename_i h0
   exact⟨q.good,q.old,fun e=>absurd e h0,q.flag,q.found⟩
theorem many_ne {m:Nat} (h:manyB m=true):m≠0:=by
 rintro rfl
 simp[manyB] at h
theorem clo_seated {p:Pr} {B:List (List (Int×Int))} {R:List Nat} (h:Clo p B R) {c:Nat} (h0:R.getD c 0≠0):seatedB (slotsF p.g) c=true:=by
 obtain⟨i,hi,_⟩:=min_bit _ h0
 have h1:=h.lo c i hi
 have hl:c<p.M.length:=by have:=bit_lt h1;rwa [m0_len] at this
 unfold bitAt at h1
 rw[m0_get hl] at h1
 split at h1
 ·assumption
 ·simp at h1
theorem good_clo {p:Pr} (hc:checkP p=0) (hM:Smalls p.M) {F:List (List (Int×Int))} (hF:Good p F) (fx:List (Int×Int)) (ho:(spreadG p fx F).2=true):Clo p F (spreadG p fx F).1∧Leq (spreadG p fx F).1 (givenF fx p.M):=
 spread_clo hc (fun l hl x hx=>by
  have:=hF.seated hc l hl x hx
  have:=seated_in hc this.2.2
  omega) _ _ (Nat.lt_succ_self _) (given_len fx p.M) (given_small fx hM) (given_leq fx p.M) ho
theorem run_left {p:Pr} (hc:checkP p=0) (hM:Smalls p.M):∀(n:Nat) (fx:List (Int×Int)) (s:RunS),Good p s.2.1→fx.any (oddP (seatsF p.g).1 (seatsF p.g).2)=false→Left p fx s (runF p n fx s)
 |0,fx,s,h1,h2=>by
  simp only[runF]
  exact⟨h1,fun l hl=>hl,fun e=>absurd e (by simp),fun _=>rfl,fun e=>absurd e (by simp)⟩
 |n+1,fx,s,h1,h2=>by
  simp only[runF,runB]
  split
  ·exact⟨h1,fun l hl=>hl,fun e=>absurd e (by simp),fun _=>rfl,fun e=>absurd e (by simp)⟩
  ·split
   ·rename_i ho
    split
    ·exact⟨h1,fun l hl=>hl,fun e=>absurd e (by simp),fun e=>absurd rfl e,fun _=>rfl⟩
    ·rename_i hf
     rcases findU_at (spreadG p fx s.2.1).1 0 (by omega) with⟨e,_⟩|⟨j,e,hj,hm,_⟩
     ·omega
     ·rw[Int.zero_add] at e
      obtain⟨C,L⟩:=good_clo hc hM h1 fx ho
      rw[e,Int.toNat_natCast]
      have hss:=(spread_small hc s.2.1 ((givenF fx p.M).sum+1) (givenF fx p.M) (given_len _ _) (given_small fx hM)).at j
      have k:=kids_left hc hM (F0:=s.2.1) h2 (clo_seated C (many_ne hm)) (run_left hc hM n) _ (s.1+1,s.2) h1 (fun l hl=>hl) (fun z hz=>has_lt (mem_list.1 hz)) (fun i hi=> .inl (mem_list.2 (by
       have hi64:i<64:=bit_64 hss hi
       exact has_nat.2 ⟨hi64,hi⟩)))
      exact⟨k.good,k.old,k.last,k.flag,k.found⟩
   ·rename_i ho
    refine⟨h1.snoc h2 (by simpa using ho),fun l hl=>List.mem_append_left _ hl,fun _=>⟨_,rfl⟩,fun _=>rfl,fun e=>absurd e (by simp)⟩
theorem prov_taken {p:Pr} (hc:checkP p=0) (hM:Smalls p.M) (h:(provF p).2=0):Good p (provF p).1∧(∃P,(provF p).1=P++[[]])∧(provF p).1.length≤65000:=by
 have q:=run_left hc hM (66000-(0:Int)).toNat [] (0,[],false) (fun j hj=>by simp at hj) rfl
 have t:=runS_ok hc [] (0,[],false) ⟨by simp,by simp,fun l hl=>by simp at hl⟩ (by simp) ⟨by simp,fun x hx=>by simp at hx⟩
 have e:runF p (66000-(0:Int)).toNat [] (0,[],false)=runS p [] (0,[],false):=rfl
 rw[e] at q
 unfold provF at h⊢
 rw[if_pos hc] at h⊢
 obtain⟨r,hr⟩:∃r,runS p [] (0,[],false)=r:=⟨_,rfl⟩
 rw[hr] at h q t⊢
 cases hb:r.2.2.2 with
 |true=>rw[hb,if_pos rfl] at h;cases h
 |false=>
  rw[hb,if_neg (by simp)] at h
  rw[if_neg (by simp)]
  by_cases h2:r.1=2∨((r.2.2.1.length:Nat):Int)>65000
  ·rw[if_pos h2] at h;cases h
  ·rw[if_neg h2]
   have h0:r.1=0:=by
    rcases t.how with h|h|h
    ·exact h
    ·have:=q.found h
     rw[hb] at this
     cases this
    ·exact absurd (.inl h) h2
   exact⟨q.good,q.last h0,by simp only;omega⟩
theorem prov_checked {p:Pr} (hc:checkP p=0) (hM:Smalls p.M) (h:(provF p).2=0):checkR p (provF p).1=(0,0):=by
 obtain⟨a,b,c⟩:=prov_taken hc hM h
 exact good_check hc a c b
theorem Good.more {p:Pr} (hc:checkP p=0) (hM:Smalls p.M) {F F':List (List (Int×Int))} (h:Good p F) {M':List Nat} (hl:M'.length=p.M.length) (hle:Leq M' p.M)
  (hj:∀j',j'<F'.length→∃j,j<F.length∧F'.getD j' []=F.getD j []∧∀l∈F.take j,l∈F'.take j'):Good ⟨p.g,p.W,M'⟩ F':=by
 have hc':checkP ⟨p.g,p.W,M'⟩=0:=by rw[again_check hl];exact hc
 have hM':Smalls M':=leq_small hle hM
 have odd:∀j',j'<F'.length→(F'.getD j' []).any (oddP (seatsF p.g).1 (seatsF p.g).2)=false:=fun j' h'=>by
  obtain⟨j,a,b,_⟩:=hj j' h'
  rw[b]
  exact(h j a).1
 have seat:∀l∈F',∀x∈l,(0≤x.2∧x.2<64)∧0≤x.1∧seatedB (slotsF p.g) x.1.toNat=true:=fun l hl=>by
  obtain⟨j,hj',rfl⟩:=List.mem_iff_getElem.1 hl
  have:=odd j hj'
  rw[List.getD_eq_getElem?_getD,List.getElem?_eq_getElem hj'] at this
  exact seats_pair hc this
 intro j' h'
 refine⟨odd j' h',?_⟩
 obtain⟨j,a,b,sub⟩:=hj j' h'
 obtain⟨g1,g2⟩:=h j a
 cases ho:(spreadG ⟨p.g,p.W,M'⟩ (F'.getD j' []) (F'.take j')).2 with
 |false=>rfl
 |true=>
  exfalso
  obtain⟨C,L⟩:=spread_clo (p:=⟨p.g,p.W,M'⟩) hc' (B:=F'.take j') (fun l hl x hx=>by
   have:=seat l (List.mem_of_mem_take hl) x hx
   have h2:=seated_in hc this.2.2
   simp only
   omega) _ _ (Nat.lt_succ_self _) (given_len _ M') (given_small _ hM') (given_leq _ M') ho
  rw[b] at C L
  have C2:Clo p (F.take j) _:=(C.up hl hle).sub sub
  have:=clo_spread hc C2 (fun l hl x hx=>(h.seated hc l (List.mem_of_mem_take hl) x hx).2.2) ((givenF (F.getD j []) p.M).sum+1) (givenF (F.getD j []) p.M) (given_len _ _) (L.trans (given_mono hl hle _))
  unfold spreadG at g2
  rw[this.1] at g2
  cases g2
end Go.Proofs.YtnakmganodkliaaDoorAm
set_option maxRecDepth 100000
namespace Go.Proofs.YtnakmganodkliaaDoorAm
open Go
theorem d98U (g:Gr) (W:List (List Int)) (M:List Nat) (F:List (List (Int×Int))) (seen:Int) (fb:Bool) (hc:checkP ⟨g,W,M⟩=0) (hM:Smalls M) (h2:seen≤66000) (h3:RunOk M.length (seen,F,fb)):Con Tryd.prog 98 [.box 129 [.fn 97 [.ptr 2 0 0],.v (.bool true),.own 1 0 F.length none,.v (.int .i64 g.h),.v (.int .i64 g.w),.sl false false .bool g.B,.sl false false .bool g.R,.sl false false .bool g.L,slW W,slU M,.v (.int .i64 seen)],.data 90 BT F,.box 4 [.v (.bool fb)]] [.ptr 0 0 0] (.v (.bool ((runS ⟨g,W,M⟩ [] (seen,F,fb)).1 !=2))) [some (.box 129 [.fn 97 [.ptr 2 0 0],.v (.bool true),.own 3 0 (runS ⟨g,W,M⟩ [] (seen,F,fb)).2.2.1.length none,.v (.int .i64 g.h),.v (.int .i64 g.w),.sl false false .bool g.B,.sl false false .bool g.R,.sl false false .bool g.L,slW W,slU M,.v (.int .i64 (runS ⟨g,W,M⟩ [] (seen,F,fb)).2.1)]),none,some (.box 4 [.v (.bool (runS ⟨g,W,M⟩ [] (seen,F,fb)).2.2.2)])] [.data 90 BT (runS ⟨g,W,M⟩ [] (seen,F,fb)).2.2.1]:=by
 refine con_vc (how:=[none]) (c:=u98) (K:=(KK u98)) spW2 (fun _=> []) (fun k=>if k=99 then [⟨1000020000,90,BT⟩] else []) 400 .stop (V:=fun G R=>let yy0:=(Pr.mk g W (Nt (Mi M)));let yy1:=(Ty.int .i64);let yy2:=(Value.int .i64 yy0.g.h);let yy3:=(Value.int .i64 yy0.g.w);let yy4:=(Ty.int .u64);Con Tryd.prog 127 [Row.box 125 [D.ptr 2 0 0],Row.box 159 [D.fn 127 [D.ptr 0 0 0,D.ptr 1 0 0]],Row.box 129 [D.fn 97 [D.ptr 4 0 0],D.v (Value.bool true),D.own 3 0 F.length none,D.v yy2,D.v yy3,D.sl false false Ty.bool yy0.g.B,D.sl false false Ty.bool yy0.g.R,D.sl false false Ty.bool yy0.g.L,D.sl false false yy1.sl yy0.W,D.sl false false yy4 (Mi yy0.M),D.v (Value.int .i64 seen)],Row.data 90 (yy1.prod yy1).sl F,Row.box 4 [D.v (Value.bool fb)]] [D.sl false false (yy1.prod yy1) [],D.ptr 0 0 0,D.ptr 1 0 0] (D.v (Value.int .i64 (runS yy0 [] (seen,F,fb)).fst)) [some (Row.box 125 [D.ptr 2 0 0]),some (Row.box 159 [D.fn 127 [D.ptr 0 0 0,D.ptr 1 0 0]]),some (Row.box 129 [D.fn 97 [D.ptr 4 0 0],D.v (Value.bool true),D.own 5 0 (runS yy0 [] (seen,F,fb)).snd.snd.fst.length none,D.v yy2,D.v yy3,D.sl false false Ty.bool yy0.g.B,D.sl false false Ty.bool yy0.g.R,D.sl false false Ty.bool yy0.g.L,D.sl false false yy1.sl yy0.W,D.sl false false yy4 (Mi yy0.M),D.v (Value.int .i64 (runS yy0 [] (seen,F,fb)).snd.fst)]),none,some (Row.box 4 [D.v (Value.bool (runS yy0 [] (seen,F,fb)).snd.snd.snd)])] [Row.data 90 (yy1.prod yy1).sl (runS yy0 [] (seen,F,fb)).snd.snd.fst]∧([]:List (Int×Int))=[]∧3=3∧0=0∧0=0∧4=4∧0=0∧0=0∧some (Row.box 125 [D.ptr 0 0 0])=some (Row.box 125 [D.ptr 0 0 0])∧some (Row.box 159 [D.fn 127 [D.ptr 3 0 0,D.ptr 4 0 0]])=some (Row.box 159 [D.fn 127 [D.ptr 3 0 0,D.ptr 4 0 0]])∧some (Row.box 129 [D.fn 97 [D.ptr 2 0 0],D.v (Value.bool true),D.own 1 0 F.length none,D.v (Value.int .i64 g.h),D.v (Value.int .i64 g.w),D.sl false false Ty.bool g.B,D.sl false false Ty.bool g.R,D.sl false false Ty.bool g.L,D.sl false false yy1.sl W,D.sl false false yy4 (Mi M),D.v (Value.int .i64 seen)])=some (Row.box 129 [D.fn 97 [D.ptr 2 0 0],D.v (Value.bool true),D.own 1 0 F.length none,D.v yy2,D.v yy3,D.sl false false Ty.bool yy0.g.B,D.sl false false Ty.bool yy0.g.R,D.sl false false Ty.bool yy0.g.L,D.sl false false yy1.sl yy0.W,D.sl false false yy4 (Mi yy0.M),D.v (Value.int .i64 seen)])∧some (Row.data 90 (yy1.prod yy1).sl F)=some (Row.data 90 (yy1.prod yy1).sl F)∧some (Row.box 4 [D.v (Value.bool fb)])=some (Row.box 4 [D.v (Value.bool fb)])∧R (D.v (Value.bool ((runS yy0 [] (seen,F,fb)).fst !=(2:Int))),[some (Row.box 129 [D.fn 97 [D.ptr 2 0 0],D.v (Value.bool true),D.own 3 0 (runS yy0 [] (seen,F,fb)).snd.snd.fst.length none,D.v yy2,D.v yy3,D.sl false false Ty.bool yy0.g.B,D.sl false false Ty.bool yy0.g.R,D.sl false false Ty.bool yy0.g.L,D.sl false false yy1.sl yy0.W,D.sl false false yy4 (Mi yy0.M),D.v (Value.int .i64 (runS yy0 [] (seen,F,fb)).snd.fst)]),none,some (Row.box 4 [D.v (Value.bool (runS yy0 [] (seen,F,fb)).snd.snd.snd)])],[Row.data 90 (yy1.prod yy1).sl (List.take (runS yy0 [] (seen,F,fb)).snd.snd.fst.length (List.drop 0 (runS yy0 [] (seen,F,fb)).snd.snd.fst))])) hmG Tryd.func98 (by kernel_rfl) (by kernel_rfl) (fun G R=>by kernel_rfl) ?_
 try dsimp only
 try dsimp only
 have c1:=d127U g W M hc hM [] (seen,F,fb) h2 h3 ⟨h3.pos,fun x hx=>by simp at hx⟩
 simp only at c1
 simp only[Nt_Mi,take_len,List.drop_zero,List.take_length,Mi_getD,Mi_len,Nt_Mi,Int.toNat_natCast,Mi_set,Nat.zero_add,Nat.sub_zero,List.length_set,take_one,takeSn,List.take_zero,List.nil_append,List.length_append,List.length_cons,List.length_nil,Mi_take]
 simp (disch:=omega) only[oo,oop,ne_eq,Ty.dflt,reduceCtorEq]
 repeat' (first|with_reducible refine And.intro ?_ ?_|intro _)
 all_goals first|rfl|omega|assumption|trivial|(exfalso;simp_all;done)|(exfalso;omega)|skip
theorem d96U (g:Gr) (W:List (List Int)) (M:List Nat):Con Tryd.prog 96 [] [.agg [.v (.int .i64 g.h),.v (.int .i64 g.w),.sl false false .bool g.B,.sl false false .bool g.R,.sl false false .bool g.L,slW W,slU M]] (.ptr 0 0 0) [] [.box 129 [.v .nilFunc,.v (.bool false),.own 1 0 0 none,.v (.int .i64 g.h),.v (.int .i64 g.w),.sl false false .bool g.B,.sl false false .bool g.R,.sl false false .bool g.L,slW W,slU M,.v (.int .i64 0)],.data 90 BT []]:=by
 refine con_vc (how:=[none]) (c:=u96) (K:=(KK u96)) spW2 (fun _=> []) (fun k=>if k=99 then [⟨20005,90,BT⟩] else []) 400 .stop (V:=fun G R=>R (D.ptr 0 0 0,[],[Row.box 129 [D.v Value.nilFunc,D.v (Value.bool false),D.own 1 0 0 none,D.v (Value.int .i64 g.h),D.v (Value.int .i64 g.w),D.sl false false Ty.bool g.B,D.sl false false Ty.bool g.R,D.sl false false Ty.bool g.L,D.sl false false (Ty.int .i64).sl W,D.sl false false (Ty.int .u64) (Mi M),D.v (Value.int .i64 (0:Int))],Row.data 90 ((Ty.int .i64).prod (Ty.int .i64)).sl []])) hmG Tryd.func96 (by kernel_rfl) (by kernel_rfl) (fun G R=>by kernel_rfl) ?_
 try dsimp only
 all_goals rfl
theorem d59U (g:Gr) (W:List (List Int)) (M:List Nat) (hM:Smalls M):Con Tryd.prog 59 [] [.agg [.v (.int .i64 g.h),.v (.int .i64 g.w),.sl false false .bool g.B,.sl false false .bool g.R,.sl false false .bool g.L,slW W,slU M]] (.tup [.own 0 0 (provF ⟨g,W,M⟩).1.length none,.v (.int .i64 (provF ⟨g,W,M⟩).2)]) [] [.data 90 BT (provF ⟨g,W,M⟩).1]:=by
 refine con_vc (how:=[none,none]) (c:=u59) (K:=(KK u59)) spW2 (fun _=> []) (fun k=>if k=99 then [⟨2,90,BT⟩] else []) 400 (.fork .stop (.fork .stop (.fork (.t .stop) (.fork .stop .stop)))) (V:=fun G R=>let yy0:=(Pr.mk (Pr.mk g W (Nt (Mi M))).g (Pr.mk g W (Nt (Mi M))).W (Nt (Mi (Pr.mk g W (Nt (Mi M))).M)));let yy1:=(Pr.mk g W (Nt (Mi M)));let yy2:=(Ty.int .i64);let yy3:=(Value.int .i64 (0:Int));let yy4:=(Ty.int .u64);let yy5:=(yy2.prod yy2);let yy6:=(Value.int .i64 yy1.g.h);let yy7:=(Value.int .i64 yy1.g.w);Con Tryd.prog 89 [] [D.agg [D.v yy6,D.v yy7,D.sl false false Ty.bool yy1.g.B,D.sl false false Ty.bool yy1.g.R,D.sl false false Ty.bool yy1.g.L,D.sl false false yy2.sl yy1.W,D.sl false false yy4 (Mi yy1.M)]] (D.v (Value.int .i64 (checkP yy1))) [] []∧Value.int .i64 g.h=Value.int .i64 yy1.g.h∧Value.int .i64 g.w=Value.int .i64 yy1.g.w∧g.B=yy1.g.B∧g.R=yy1.g.R∧g.L=yy1.g.L∧W=yy1.W∧Mi M=Mi yy1.M∧((checkP yy1 !=(0:Int))=true→R (D.tup [D.own 0 0 0 none,D.v (Value.int .i64 (checkP yy1))],[],[Row.data 90 yy5.sl []]))∧((checkP yy1 !=(0:Int))=false→Con Tryd.prog 96 [] [D.agg [D.v yy6,D.v yy7,D.sl false false Ty.bool yy1.g.B,D.sl false false Ty.bool yy1.g.R,D.sl false false Ty.bool yy1.g.L,D.sl false false yy2.sl yy1.W,D.sl false false yy4 (Mi yy1.M)]] (D.ptr 0 0 0) [] [Row.box 129 [D.v Value.nilFunc,D.v (Value.bool false),D.own 1 0 0 none,D.v yy6,D.v yy7,D.sl false false Ty.bool yy1.g.B,D.sl false false Ty.bool yy1.g.R,D.sl false false Ty.bool yy1.g.L,D.sl false false yy2.sl yy1.W,D.sl false false yy4 (Mi yy1.M),D.v yy3],Row.data 90 yy5.sl []]∧Value.int .i64 g.h=Value.int .i64 yy1.g.h∧Value.int .i64 g.w=Value.int .i64 yy1.g.w∧g.B=yy1.g.B∧g.R=yy1.g.R∧g.L=yy1.g.L∧W=yy1.W∧Mi M=Mi yy1.M∧Con Tryd.prog 98 [Row.box 129 [D.fn 97 [D.ptr 2 0 0],D.v (Value.bool true),D.own 1 0 0 none,D.v (Value.int .i64 yy0.g.h),D.v (Value.int .i64 yy0.g.w),D.sl false false Ty.bool yy0.g.B,D.sl false false Ty.bool yy0.g.R,D.sl false false Ty.bool yy0.g.L,D.sl false false yy2.sl yy0.W,D.sl false false yy4 (Mi yy0.M),D.v yy3],Row.data 90 yy5.sl [],Row.box 4 [D.v (Value.bool false)]] [D.ptr 0 0 0] (D.v (Value.bool ((runS yy0 [] ((0:Int),[],false)).fst !=(2:Int)))) [some (Row.box 129 [D.fn 97 [D.ptr 2 0 0],D.v (Value.bool true),D.own 3 0 (runS yy0 [] ((0:Int),[],false)).snd.snd.fst.length none,D.v (Value.int .i64 yy0.g.h),D.v (Value.int .i64 yy0.g.w),D.sl false false Ty.bool yy0.g.B,D.sl false false Ty.bool yy0.g.R,D.sl false false Ty.bool yy0.g.L,D.sl false false yy2.sl yy0.W,D.sl false false yy4 (Mi yy0.M),D.v (Value.int .i64 (runS yy0 [] ((0:Int),[],false)).snd.fst)]),none,some (Row.box 4 [D.v (Value.bool (runS yy0 [] ((0:Int),[],false)).snd.snd.snd)])] [Row.data 90 yy5.sl (runS yy0 [] ((0:Int),[],false)).snd.snd.fst]∧9=9∧0=0∧0=0∧some (Row.box 129 [D.fn 97 [D.ptr 17 0 0],D.v (Value.bool true),D.own 10 0 0 none,D.v yy6,D.v yy7,D.sl false false Ty.bool yy1.g.B,D.sl false false Ty.bool yy1.g.R,D.sl false false Ty.bool yy1.g.L,D.sl false false yy2.sl yy1.W,D.sl false false yy4 (Mi yy1.M),D.v yy3])=some (Row.box 129 [D.fn 97 [D.ptr 17 0 0],D.v (Value.bool true),D.own 10 0 0 none,D.v (Value.int .i64 yy0.g.h),D.v (Value.int .i64 yy0.g.w),D.sl false false Ty.bool yy0.g.B,D.sl false false Ty.bool yy0.g.R,D.sl false false Ty.bool yy0.g.L,D.sl false false yy2.sl yy0.W,D.sl false false yy4 (Mi yy0.M),D.v yy3])∧some (Row.data 90 yy5.sl [])=some (Row.data 90 yy5.sl [])∧some (Row.box 4 [D.v (Value.bool false)])=some (Row.box 4 [D.v (Value.bool false)])∧((runS yy0 [] ((0:Int),[],false)).snd.snd.snd=true→R (D.tup [D.own 0 0 0 none,D.v (Value.int .i64 (130:Int))],[],[Row.data 90 yy5.sl []]))∧((runS yy0 [] ((0:Int),[],false)).snd.snd.snd=false→((!(runS yy0 [] ((0:Int),[],false)).fst !=(2:Int))=true→true=true∧R (D.tup [D.own 0 0 0 none,D.v (Value.int .i64 (2:Int))],[],[Row.data 90 yy5.sl []]))∧((!(runS yy0 [] ((0:Int),[],false)).fst !=(2:Int))=false→(decide ((↑(runS yy0 [] ((0:Int),[],false)).snd.snd.fst.length:Int)>(65000:Int))=true→R (D.tup [D.own 0 0 0 none,D.v (Value.int .i64 (2:Int))],[],[Row.data 90 yy5.sl []]))∧(decide ((↑(runS yy0 [] ((0:Int),[],false)).snd.snd.fst.length:Int)>(65000:Int))=false→R (D.tup [D.own 0 0 (runS yy0 [] ((0:Int),[],false)).snd.snd.fst.length none,D.v yy3],[],[Row.data 90 yy5.sl (runS yy0 [] ((0:Int),[],false)).snd.snd.fst])))))) hmG Tryd.func59 (by kernel_rfl) (by kernel_rfl) (fun G R=>by kernel_rfl) ?_
 try dsimp only
 try dsimp only
 have c89:=d62 g W M
 have c96:=d96U g W M
 obtain⟨a,ha⟩:∃a,provF ⟨g,W,M⟩=a:=⟨_,rfl⟩
 rw[ha]
 unfold provF at ha
 simp only[Nt_Mi,take_len,List.drop_zero,List.take_length,Mi_getD,Mi_len,Nt_Mi,Int.toNat_natCast,Mi_set,Nat.zero_add,Nat.sub_zero,List.length_set,take_one,takeSn,List.take_zero,List.nil_append,List.length_append,List.length_cons,List.length_nil,Mi_take]
 by_cases hc:checkP ⟨g,W,M⟩=0
 ·have w:(checkP ⟨g,W,M⟩ !=0)=false:=by rw[hc];rfl
  rw[if_pos hc] at ha
  have c98:=d98U g W M [] 0 false hc hM (by omega) ⟨by simp,by simp,fun l hl=>by simp at hl⟩
  obtain⟨r,hr⟩:∃r,runS ⟨g,W,M⟩ [] (0,[],false)=r:=⟨_,rfl⟩
  rw[hr] at ha c98
  rw[hc] at c89
  simp only[w,hr,hc]
  cases hb:r.2.2.2 with
  |true=>
   rw[hb] at ha c98
   rw[if_pos rfl] at ha
   subst ha
   simp (disch:=omega) only[oo,oop,ne_eq,Ty.dflt,reduceCtorEq]
   repeat' (first|with_reducible refine And.intro ?_ ?_|intro _)
   all_goals first|rfl|omega|assumption|trivial|(exfalso;simp_all;done)|(exfalso;omega)|skip
  |false=>
   rw[hb] at ha c98
   rw[if_neg (by simp)] at ha
   by_cases h2:r.1=2
   ·rw[if_pos (Or.inl h2)] at ha
    subst ha
    have w2:(r.1 !=2)=false:=by rw[h2];rfl
    rw[w2] at c98
    simp only[w2,Bool.not_false]
    simp (disch:=omega) only[oo,oop,ne_eq,Ty.dflt,reduceCtorEq]
    repeat' (first|with_reducible refine And.intro ?_ ?_|intro _)
    all_goals first|rfl|omega|assumption|trivial|(exfalso;simp_all;done)|(exfalso;omega)|skip
   ·have w2:(r.1 !=2)=true:=by rw[bne_iff_ne];exact h2
    rw[w2] at c98
    by_cases h3:((r.2.2.1.length:Nat):Int)>65000
    ·rw[if_pos (Or.inr h3)] at ha
     subst ha
     have w3:decide ((r.2.2.1.length:Int)>65000)=true:=decide_eq_true h3
     simp only[w2,w3,Bool.not_true]
     simp (disch:=omega) only[oo,oop,ne_eq,Ty.dflt,reduceCtorEq]
     repeat' (first|with_reducible refine And.intro ?_ ?_|intro _)
     all_goals first|rfl|omega|assumption|trivial|(exfalso;simp_all;done)|(exfalso;omega)|skip
    ·rw[if_neg (by omega)] at ha
     subst ha
     have w3:decide ((r.2.2.1.length:Int)>65000)=false:=decide_eq_false h3
     simp only[w2,w3,Bool.not_true]
     simp (disch:=omega) only[oo,oop,ne_eq,Ty.dflt,reduceCtorEq]
     repeat' (first|with_reducible refine And.intro ?_ ?_|intro _)
     all_goals first|rfl|omega|assumption|trivial|(exfalso;simp_all;done)|(exfalso;omega)|skip
 ·have w:(checkP ⟨g,W,M⟩ !=0)=true:=by rw[bne_iff_ne];exact hc
  rw[if_neg hc] at ha
  subst ha
  simp only[w]
  simp (disch:=omega) only[oo,oop,ne_eq,Ty.dflt,reduceCtorEq]
  repeat' (first|with_reducible refine And.intro ?_ ?_|intro _)
  all_goals first|rfl|omega|assumption|trivial|(exfalso;simp_all;done)|(exfalso;omega)|skip
end Go.Proofs.YtnakmganodkliaaDoorAm
set_option maxRecDepth 100000
namespace Go.Proofs.YtnakmganodkliaaDoorAm
open Go
theorem room90 {n:Nat} (h:n≤5864062014805):roomy Tryd.prog 90 n:=by
 unfold roomy
 rw[show Tryd.prog.bytesOf 90=24 by kernel_rfl]
 omega
end Go.Proofs.YtnakmganodkliaaDoorAm
set_option maxRecDepth 100000
namespace Go.Proofs.YtnakmganodkliaaDoorAm
open Go
theorem con_lenT {P:Program} {f:FuncId} {args:List D} {n:Nat} {cap:Option Nat} {allocs:List Row} {x:Value} (h:Con P f [] args (.tup [.own 0 0 n cap,.v x]) [] allocs):Con P f [] args (.tup [.lenv n,.v x]) [] []:=by
 refine⟨h.fn,fun w ρ S vs M hargs=>(h.run w ρ S vs M hargs).mono ?_⟩
 rintro ex w' ⟨v,ρ',S',h1,h2,h3⟩
 have hp:=mem_pack h2 (n:=0) rfl (ids:=[]) (ds:=[]) rfl
 simp only[RelD] at h3
 obtain⟨us,hv,h4⟩:=h3
 simp only[RelDs] at h4
 obtain⟨u1,us1,rfl,hu1,u2,us2,rfl,hu2,rfl⟩:=h4
 obtain⟨A,c,e⟩:=lenD_rel (d:= .own 0 0 n cap) rfl hu1
 refine⟨v,fun k=>ρ' (([]:List Nat).getD k 0),S',h1,hp,?_⟩
 simp only[RelD,RelDs] at hu2⊢
 exact⟨_,hv,u1,_,rfl,⟨A,c,e⟩,u2,_,rfl,hu2,rfl⟩
def g1:Gr:=⟨2,2,[false,false,false,false],[false,false,false,false],[false,false,false,false]⟩
def p1:Pr:=⟨g1,[[0,1],[2,3]],[15,15,15,15]⟩
theorem nar1:checkP p1=0∧(spreadG p1 [] []).2=false∧checkR p1 [[]]=(0,0)∧checkR p1 []=(0,151):=by
 refine⟨?_,?_,?_,?_⟩<;>kernel_rfl
abbrev prC (p:Pr):List D:=[.v (.int .i64 p.g.h),.v (.int .i64 p.g.w),.sl false false .bool p.g.B,.sl false false .bool p.g.R,.sl false false .bool p.g.L,slW p.W,slU p.M]
abbrev seaR (b:Nat) (d:D) (p:Pr) (n:Int):Row:= .box 129 (.fn 97 [.ptr b 0 0]:: .v (.bool true)::d::(prC p++[.v (.int .i64 n)]))
abbrev nilD:D:= .v (.slice none 0 0)
def spU:Sp:=fun f args rd=>match f,args with
 |147,[.v (.slice none 0 0)]=>some {f:=147,args:=[nilD],val:=nilD}
 |96,[.agg [.v (.int _ h),.v (.int _ w),b,r,l,ws,ms]]=>withP rd h w b r l ws ms fun p ls=>some {f:=96,args:=[p.d],val:= .ptr 0 0 0,allocs:=[.box 129 (.v .nilFunc:: .v (.bool false)::nilD::(prC p++[.v (.int .i64 0)]))],lent:=ls}
 |128,[.ptr a _ _,.v (.slice none 0 0)]=>match rd a with
  |some (.box _ [.fn 97 [.ptr q _ _],.v (.bool true),.v (.slice none 0 0),.v (.int _ h),.v (.int _ w),b,r,l,ws,ms,.v (.int _ n)])=>withP rd h w b r l ws ms fun p ls=>some {f:=128,args:=[.ptr 0 0 0,nilD],pre:=[seaR 1 nilD p n,.box 4 [.v (.bool false)]],val:= .tup [],post:=[some (seaR 1 (.own 2 0 1 none) p n),some (.box 4 [.v (.bool false)])],allocs:=[.data 90 BT [[]]],cap:=[a,q]}
  |_=>none
 |127,[.v (.slice none 0 0),.ptr a _ _,.ptr d _ _]=>match rd a with
  |some (.box _ [.ptr s _ _])=>match rd s with
   |some (.box _ [.fn 97 [.ptr q _ _],.v (.bool true),.v (.slice none 0 0),.v (.int _ h),.v (.int _ w),b,r,l,ws,ms,.v (.int _ n)])=>withP rd h w b r l ws ms fun p ls=>some {f:=127,args:=[nilD,.ptr 0 0 0,.ptr 1 0 0],pre:=[.box 125 [.ptr 2 0 0],.box 159 [.fn 127 [.ptr 0 0 0,.ptr 1 0 0]],seaR 3 nilD p 0,.box 4 [.v (.bool false)]],val:= .v (.int .i64 0),post:=[some (.box 125 [.ptr 2 0 0]),some (.box 159 [.fn 127 [.ptr 0 0 0,.ptr 1 0 0]]),some (seaR 3 (.own 4 0 1 none) p 1),some (.box 4 [.v (.bool false)])],allocs:=[.data 90 BT [[]]],cap:=[a,d,s,q]}
   |_=>none
  |_=>none
 |98,[.ptr s _ _]=>match rd s with
  |some (.box _ [.fn 97 [.ptr q _ _],.v (.bool true),.v (.slice none 0 0),.v (.int _ h),.v (.int _ w),b,r,l,ws,ms,.v (.int _ n)])=>withP rd h w b r l ws ms fun p ls=>some {f:=98,args:=[.ptr 0 0 0],pre:=[seaR 1 nilD p 0,.box 4 [.v (.bool false)]],val:= .v (.bool true),post:=[some (seaR 1 (.own 2 0 1 none) p 1),some (.box 4 [.v (.bool false)])],allocs:=[.data 90 BT [[]]],cap:=[s,q]}
  |_=>none
 |59,[.agg [.v (.int _ h),.v (.int _ w),b,r,l,ws,ms]]=>withP rd h w b r l ws ms fun p ls=>some {f:=59,args:=[p.d],val:= .tup [.own 0 0 1 none,.v (.int .i64 0)],allocs:=[.data 90 BT [[]]],lent:=ls}
 |f,args=>spT5 f args rd
abbrev kP:NK:=⟨90,.sl SeT,0,92,SeT⟩
def spV:Sp:=fun f args rd=>if f=2000014 then some {f:=0,args:=[],val:= .top,nk:=some kW} else if f=2000020 then some {f:=0,args:=[],val:= .top,nk:=some kP} else if f=59 then(match args with
 | [.agg [.v (.int _ h),.v (.int _ w),b,r,l,ws,ms]]=>withP rd h w b r l ws ms fun p ls=>some {f:=59,args:=[p.d],val:= .tup [.lenv 1,.v (.int .i64 0)],lent:=ls}
 |_=>none) else spU f args rd
noncomputable def r59:Code:=(Tryd.f59.body).getD .skip
noncomputable def r96:Code:=(Tryd.f96.body).getD .skip
noncomputable def r98:Code:=(Tryd.f98.body).getD .skip
noncomputable def r127:Code:=(Tryd.f127.body).getD .skip
noncomputable def r128:Code:=(Tryd.f128.body).getD .skip
noncomputable def r147:Code:=(Tryd.f147.body).getD .skip
end Go.Proofs.YtnakmganodkliaaDoorAm
set_option maxRecDepth 100000
namespace Go.Proofs.YtnakmganodkliaaDoorAm
open Go
theorem d147R:Con Tryd.prog 147 [] [.v (.slice none 0 0)] (.v (.slice none 0 0)) [] []:=by
 refine con_vc (how:=[none]) (c:=r147) (K:=(KK r147)) spU (fun _=> []) (fun _=> []) 400 (.fork .stop .stop) (V:=fun G R=>(true=true→R (D.v (Value.slice none 0 0),[],[]))∧(true=false→roomy Tryd.prog 92 0∧R (D.own 0 0 0 none,[],[Row.data 92 ((Ty.int .i64).prod (Ty.int .i64)) (List.take 0 (List.drop 0 [])++[])]))) hmG Tryd.func147 (by kernel_rfl) (by kernel_rfl) (fun G R=>by kernel_rfl) ?_
 try dsimp only
 repeat' (first|with_reducible refine And.intro ?_ ?_|intro _)
 all_goals first|rfl|omega|assumption|trivial|exact room90 (by omega)|exact c1|exact c2|exact c3|(exfalso;simp_all;done)|(exfalso;omega)|skip
theorem d96R (g:Gr) (W:List (List Int)) (M:List Nat):Con Tryd.prog 96 [] [.agg [.v (.int .i64 g.h),.v (.int .i64 g.w),.sl false false .bool g.B,.sl false false .bool g.R,.sl false false .bool g.L,slW W,slU M]] (.ptr 0 0 0) [] [.box 129 (.v .nilFunc:: .v (.bool false)::nilD::(prC ⟨g,W,M⟩++[.v (.int .i64 0)]))]:=by
 refine con_vc (how:=[none]) (c:=r96) (K:=(KK r96)) spU (fun _=> []) (fun _=> []) 400 .stop (V:=fun G R=>R (D.ptr 0 0 0,[],[Row.box 129 [D.v Value.nilFunc,D.v (Value.bool false),D.v (Value.slice none 0 0),D.v (Value.int .i64 g.h),D.v (Value.int .i64 g.w),D.sl false false Ty.bool g.B,D.sl false false Ty.bool g.R,D.sl false false Ty.bool g.L,D.sl false false (Ty.int .i64).sl W,D.sl false false (Ty.int .u64) (Mi M),D.v (Value.int .i64 (0:Int))]])) hmG Tryd.func96 (by kernel_rfl) (by kernel_rfl) (fun G R=>by kernel_rfl) ?_
 try dsimp only
 repeat' (first|with_reducible refine And.intro ?_ ?_|intro _)
 all_goals first|rfl|omega|assumption|trivial|exact room90 (by omega)|exact c1|exact c2|exact c3|(exfalso;simp_all;done)|(exfalso;omega)|skip
theorem d128R (g:Gr) (W:List (List Int)) (M:List Nat) (n:Int):Con Tryd.prog 128 [seaR 1 nilD ⟨g,W,M⟩ n,.box 4 [.v (.bool false)]] [.ptr 0 0 0,nilD] (.tup []) [some (seaR 1 (.own 2 0 1 none) ⟨g,W,M⟩ n),some (.box 4 [.v (.bool false)])] [.data 90 BT [[]]]:=by
 refine con_vc (how:=[]) (c:=r128) (K:=(KK r128)) spU (fun _=> []) (fun _=> []) 400 (.fork .stop .stop) (V:=fun G R=>(true=true→Con Tryd.prog 147 [] [D.v (Value.slice none 0 0)] (D.v (Value.slice none 0 0)) [] []∧Value.slice none 0 0=Value.slice none 0 0∧roomy Tryd.prog 90 1∧R (D.tup [],[some (Row.box 129 [D.fn 97 [D.ptr 1 0 0],D.v (Value.bool true),D.own 2 0 1 none,D.v (Value.int .i64 (Pr.mk g W M).g.h),D.v (Value.int .i64 (Pr.mk g W M).g.w),D.sl false false Ty.bool (Pr.mk g W M).g.B,D.sl false false Ty.bool (Pr.mk g W M).g.R,D.sl false false Ty.bool (Pr.mk g W M).g.L,D.sl false false (Ty.int .i64).sl (Pr.mk g W M).W,D.sl false false (Ty.int .u64) (Mi (Pr.mk g W M).M),D.v (Value.int .i64 n)]),some (Row.box 4 [D.v (Value.bool false)])],[Row.data 90 ((Ty.int .i64).prod (Ty.int .i64)).sl (List.take 1 (List.drop 0 [[]]))]))∧(true=false→R (D.tup [],[some (Row.box 129 [D.fn 97 [D.ptr 1 0 0],D.v (Value.bool true),D.v (Value.slice none 0 0),D.v (Value.int .i64 (Pr.mk g W M).g.h),D.v (Value.int .i64 (Pr.mk g W M).g.w),D.sl false false Ty.bool (Pr.mk g W M).g.B,D.sl false false Ty.bool (Pr.mk g W M).g.R,D.sl false false Ty.bool (Pr.mk g W M).g.L,D.sl false false (Ty.int .i64).sl (Pr.mk g W M).W,D.sl false false (Ty.int .u64) (Mi (Pr.mk g W M).M),D.v (Value.int .i64 n)]),some (Row.box 4 [D.v (Value.bool false)])],[]))) hmG Tryd.func128 (by kernel_rfl) (by kernel_rfl) (fun G R=>by kernel_rfl) ?_
 try dsimp only
 have c1:=d147R
 simp (disch:=omega) only[oo,oop,ne_eq,Ty.dflt,reduceCtorEq]
 repeat' (first|with_reducible refine And.intro ?_ ?_|intro _)
 all_goals first|rfl|omega|assumption|trivial|exact room90 (by omega)|exact c1|exact c2|exact c3|(exfalso;simp_all;done)|(exfalso;omega)|skip
theorem d127R (g:Gr) (W:List (List Int)) (M:List Nat) (hc:checkP ⟨g,W,M⟩=0) (hM:Smalls M) (hs:(spreadG ⟨g,W,M⟩ [] []).2=false):Con Tryd.prog 127 [.box 125 [.ptr 2 0 0],.box 159 [.fn 127 [.ptr 0 0 0,.ptr 1 0 0]],seaR 3 nilD ⟨g,W,M⟩ 0,.box 4 [.v (.bool false)]] [nilD,.ptr 0 0 0,.ptr 1 0 0] (.v (.int .i64 0)) [some (.box 125 [.ptr 2 0 0]),some (.box 159 [.fn 127 [.ptr 0 0 0,.ptr 1 0 0]]),some (seaR 3 (.own 4 0 1 none) ⟨g,W,M⟩ 1),some (.box 4 [.v (.bool false)])] [.data 90 BT [[]]]:=by
 refine con_vc (how:=[none]) (c:=r127) (K:=(KK r127)) spU (fun _=> []) (fun _=> []) 400 (.fork .stop (.t .stop)) (V:=fun G R=>let yy0:=(Pr.mk (Pr.mk g W M).g (Pr.mk g W M).W (Nt (Mi (Pr.mk g W M).M)));let yy1:=(Row.box 129 [D.fn 97 [D.ptr 3 0 0],D.v (Value.bool true),D.v (Value.slice none 0 0),D.v (Value.int .i64 (Pr.mk g W M).g.h),D.v (Value.int .i64 (Pr.mk g W M).g.w),D.sl false false Ty.bool (Pr.mk g W M).g.B,D.sl false false Ty.bool (Pr.mk g W M).g.R,D.sl false false Ty.bool (Pr.mk g W M).g.L,D.sl false false (Ty.int .i64).sl (Pr.mk g W M).W,D.sl false false (Ty.int .u64) (Mi (Pr.mk g W M).M),D.v (Value.int .i64 (IntKind.i64.wrap ((0:Int)+(1:Int))))]);let yy2:=(Ty.int .i64);let yy3:=(Value.int .i64 (IntKind.i64.wrap ((0:Int)+(1:Int))));let yy4:=(Row.box 4 [D.v (Value.bool false)]);let yy5:=(Value.int .i64 yy0.g.h);let yy6:=(Value.int .i64 yy0.g.w);let yy7:=(Ty.int .u64);(decide (IntKind.i64.wrap ((0:Int)+(1:Int))>(66000:Int))=true→R (D.v (Value.int .i64 (2:Int)),[some (Row.box 125 [D.ptr 2 0 0]),some (Row.box 159 [D.fn 127 [D.ptr 0 0 0,D.ptr 1 0 0]]),some yy1,some yy4],[]))∧(decide (IntKind.i64.wrap ((0:Int)+(1:Int))>(66000:Int))=false→Con Tryd.prog 92 [] [D.agg [D.v yy5,D.v yy6,D.sl false false Ty.bool yy0.g.B,D.sl false false Ty.bool yy0.g.R,D.sl false false Ty.bool yy0.g.L,D.sl false false yy2.sl yy0.W,D.sl false false yy7 (Mi yy0.M)],D.sl false false (yy2.prod yy2) [],D.sl false false (yy2.prod yy2).sl []] (D.tup [D.own 0 0 (spreadG yy0 [] []).fst.length none,D.v (Value.bool (spreadG yy0 [] []).snd)]) [] [Row.data 22 yy7 (Mi (spreadG yy0 [] []).fst)]∧Value.int .i64 (Pr.mk g W M).g.h=Value.int .i64 yy0.g.h∧Value.int .i64 (Pr.mk g W M).g.w=Value.int .i64 yy0.g.w∧(Pr.mk g W M).g.B=yy0.g.B∧(Pr.mk g W M).g.R=yy0.g.R∧(Pr.mk g W M).g.L=yy0.g.L∧(Pr.mk g W M).W=yy0.W∧Mi (Pr.mk g W M).M=Mi yy0.M∧([]:List (Int×Int))=[]∧([]:List (List (Int×Int)))=[]∧(!(spreadG yy0 [] []).snd)=true∧Con Tryd.prog 128 [Row.box 129 [D.fn 97 [D.ptr 1 0 0],D.v (Value.bool true),D.v (Value.slice none 0 0),D.v yy5,D.v yy6,D.sl false false Ty.bool yy0.g.B,D.sl false false Ty.bool yy0.g.R,D.sl false false Ty.bool yy0.g.L,D.sl false false yy2.sl yy0.W,D.sl false false yy7 (Mi yy0.M),D.v yy3],Row.box 4 [D.v (Value.bool false)]] [D.ptr 0 0 0,D.v (Value.slice none 0 0)] (D.tup []) [some (Row.box 129 [D.fn 97 [D.ptr 1 0 0],D.v (Value.bool true),D.own 2 0 1 none,D.v yy5,D.v yy6,D.sl false false Ty.bool yy0.g.B,D.sl false false Ty.bool yy0.g.R,D.sl false false Ty.bool yy0.g.L,D.sl false false yy2.sl yy0.W,D.sl false false yy7 (Mi yy0.M),D.v yy3]),some yy4] [Row.data 90 (yy2.prod yy2).sl [[]]]∧2=2∧0=0∧0=0∧Value.slice none 0 0=Value.slice none 0 0∧some yy1=some (Row.box 129 [D.fn 97 [D.ptr 3 0 0],D.v (Value.bool true),D.v (Value.slice none 0 0),D.v yy5,D.v yy6,D.sl false false Ty.bool yy0.g.B,D.sl false false Ty.bool yy0.g.R,D.sl false false Ty.bool yy0.g.L,D.sl false false yy2.sl yy0.W,D.sl false false yy7 (Mi yy0.M),D.v yy3])∧some yy4=some yy4∧R (D.v (Value.int .i64 (0:Int)),[some (Row.box 125 [D.ptr 2 0 0]),some (Row.box 159 [D.fn 127 [D.ptr 0 0 0,D.ptr 1 0 0]]),some (Row.box 129 [D.fn 97 [D.ptr 3 0 0],D.v (Value.bool true),D.own 4 0 1 none,D.v yy5,D.v yy6,D.sl false false Ty.bool yy0.g.B,D.sl false false Ty.bool yy0.g.R,D.sl false false Ty.bool yy0.g.L,D.sl false false yy2.sl yy0.W,D.sl false false yy7 (Mi yy0.M),D.v yy3]),some yy4],[Row.data 90 (yy2.prod yy2).sl [[]]]))) hmG Tryd.func127 (by kernel_rfl) (by kernel_rfl) (fun G R=>by kernel_rfl) ?_
 try dsimp only
 try dsimp only
 have c92:=d92 g W M [] [] hc hM (by simp) (by simp) (by simp) (by simp)
 rw[hs] at c92
 have c1:=d128R g W M 1
 have w1:IntKind.i64.wrap ((0:Int)+1)=1:=by decide
 simp only[w1,Nt_Mi,hs]
 simp (disch:=omega) only[oo,oop,ne_eq,Ty.dflt,reduceCtorEq]
 repeat' (first|with_reducible refine And.intro ?_ ?_|intro _)
 all_goals first|rfl|omega|assumption|trivial|exact room90 (by omega)|exact c1|exact c2|exact c3|(exfalso;simp_all;done)|(exfalso;omega)|skip
theorem d98R (g:Gr) (W:List (List Int)) (M:List Nat) (hc:checkP ⟨g,W,M⟩=0) (hM:Smalls M) (hs:(spreadG ⟨g,W,M⟩ [] []).2=false):Con Tryd.prog 98 [seaR 1 nilD ⟨g,W,M⟩ 0,.box 4 [.v (.bool false)]] [.ptr 0 0 0] (.v (.bool true)) [some (seaR 1 (.own 2 0 1 none) ⟨g,W,M⟩ 1),some (.box 4 [.v (.bool false)])] [.data 90 BT [[]]]:=by
 refine con_vc (how:=[none]) (c:=r98) (K:=(KK r98)) spU (fun _=> []) (fun _=> []) 400 .stop (V:=fun G R=>let yy0:=(Pr.mk (Pr.mk g W M).g (Pr.mk g W M).W (Nt (Mi (Pr.mk g W M).M)));let yy1:=(Ty.int .i64);let yy2:=(Row.box 4 [D.v (Value.bool false)]);let yy3:=(Value.int .i64 (0:Int));let yy4:=(Value.int .i64 yy0.g.h);let yy5:=(Value.int .i64 yy0.g.w);let yy6:=(Ty.int .u64);Con Tryd.prog 127 [Row.box 125 [D.ptr 2 0 0],Row.box 159 [D.fn 127 [D.ptr 0 0 0,D.ptr 1 0 0]],Row.box 129 [D.fn 97 [D.ptr 3 0 0],D.v (Value.bool true),D.v (Value.slice none 0 0),D.v yy4,D.v yy5,D.sl false false Ty.bool yy0.g.B,D.sl false false Ty.bool yy0.g.R,D.sl false false Ty.bool yy0.g.L,D.sl false false yy1.sl yy0.W,D.sl false false yy6 (Mi yy0.M),D.v yy3],Row.box 4 [D.v (Value.bool false)]] [D.v (Value.slice none 0 0),D.ptr 0 0 0,D.ptr 1 0 0] (D.v yy3) [some (Row.box 125 [D.ptr 2 0 0]),some (Row.box 159 [D.fn 127 [D.ptr 0 0 0,D.ptr 1 0 0]]),some (Row.box 129 [D.fn 97 [D.ptr 3 0 0],D.v (Value.bool true),D.own 4 0 1 none,D.v yy4,D.v yy5,D.sl false false Ty.bool yy0.g.B,D.sl false false Ty.bool yy0.g.R,D.sl false false Ty.bool yy0.g.L,D.sl false false yy1.sl yy0.W,D.sl false false yy6 (Mi yy0.M),D.v (Value.int .i64 (1:Int))]),some yy2] [Row.data 90 (yy1.prod yy1).sl [[]]]∧Value.slice none 0 0=Value.slice none 0 0∧2=2∧0=0∧0=0∧3=3∧0=0∧0=0∧some (Row.box 125 [D.ptr 0 0 0])=some (Row.box 125 [D.ptr 0 0 0])∧some (Row.box 159 [D.fn 127 [D.ptr 2 0 0,D.ptr 3 0 0]])=some (Row.box 159 [D.fn 127 [D.ptr 2 0 0,D.ptr 3 0 0]])∧some (Row.box 129 [D.fn 97 [D.ptr 1 0 0],D.v (Value.bool true),D.v (Value.slice none 0 0),D.v (Value.int .i64 (Pr.mk g W M).g.h),D.v (Value.int .i64 (Pr.mk g W M).g.w),D.sl false false Ty.bool (Pr.mk g W M).g.B,D.sl false false Ty.bool (Pr.mk g W M).g.R,D.sl false false Ty.bool (Pr.mk g W M).g.L,D.sl false false yy1.sl (Pr.mk g W M).W,D.sl false false yy6 (Mi (Pr.mk g W M).M),D.v yy3])=some (Row.box 129 [D.fn 97 [D.ptr 1 0 0],D.v (Value.bool true),D.v (Value.slice none 0 0),D.v yy4,D.v yy5,D.sl false false Ty.bool yy0.g.B,D.sl false false Ty.bool yy0.g.R,D.sl false false Ty.bool yy0.g.L,D.sl false false yy1.sl yy0.W,D.sl false false yy6 (Mi yy0.M),D.v yy3])∧some yy2=some yy2∧R (D.v (Value.bool ((0:Int) !=(2:Int))),[some (Row.box 129 [D.fn 97 [D.ptr 1 0 0],D.v (Value.bool true),D.own 2 0 1 none,D.v yy4,D.v yy5,D.sl false false Ty.bool yy0.g.B,D.sl false false Ty.bool yy0.g.R,D.sl false false Ty.bool yy0.g.L,D.sl false false yy1.sl yy0.W,D.sl false false yy6 (Mi yy0.M),D.v (Value.int .i64 (1:Int))]),some yy2],[Row.data 90 (yy1.prod yy1).sl [[]]])) hmG Tryd.func98 (by kernel_rfl) (by kernel_rfl) (fun G R=>by kernel_rfl) ?_
 try dsimp only
 try dsimp only
 have c1:=d127R g W M hc hM hs
 simp only[Nt_Mi]
 simp (disch:=omega) only[oo,oop,ne_eq,Ty.dflt,reduceCtorEq]
 repeat' (first|with_reducible refine And.intro ?_ ?_|intro _)
 all_goals first|rfl|omega|assumption|trivial|exact room90 (by omega)|exact c1|exact c2|exact c3|(exfalso;simp_all;done)|(exfalso;omega)|skip
theorem d59R (g:Gr) (W:List (List Int)) (M:List Nat) (hc:checkP ⟨g,W,M⟩=0) (hM:Smalls M) (hs:(spreadG ⟨g,W,M⟩ [] []).2=false):Con Tryd.prog 59 [] [.agg [.v (.int .i64 g.h),.v (.int .i64 g.w),.sl false false .bool g.B,.sl false false .bool g.R,.sl false false .bool g.L,slW W,slU M]] (.tup [.own 0 0 1 none,.v (.int .i64 0)]) [] [.data 90 BT [[]]]:=by
 refine con_vc (how:=[none,none]) (c:=r59) (K:=(KK r59)) spU (fun _=> []) (fun _=> []) 400 (.fork .stop (.fork .stop (.fork (.t .stop) (.fork .stop .stop)))) (V:=fun G R=>let yy0:=(Pr.mk g W (Nt (Mi M)));let yy1:=(Pr.mk yy0.g yy0.W (Nt (Mi yy0.M)));let yy2:=(Ty.int .i64);let yy3:=(Value.slice none 0 0);let yy4:=(Value.int .i64 (0:Int));let yy5:=(Ty.int .u64);let yy6:=(Value.int .i64 yy0.g.h);let yy7:=(Value.int .i64 yy0.g.w);Con Tryd.prog 89 [] [D.agg [D.v yy6,D.v yy7,D.sl false false Ty.bool yy0.g.B,D.sl false false Ty.bool yy0.g.R,D.sl false false Ty.bool yy0.g.L,D.sl false false yy2.sl yy0.W,D.sl false false yy5 (Mi yy0.M)]] (D.v (Value.int .i64 (checkP yy0))) [] []∧Value.int .i64 g.h=Value.int .i64 yy0.g.h∧Value.int .i64 g.w=Value.int .i64 yy0.g.w∧g.B=yy0.g.B∧g.R=yy0.g.R∧g.L=yy0.g.L∧W=yy0.W∧Mi M=Mi yy0.M∧((checkP yy0 !=(0:Int))=true→R (D.tup [D.v yy3,D.v (Value.int .i64 (checkP yy0))],[],[]))∧((checkP yy0 !=(0:Int))=false→Con Tryd.prog 96 [] [D.agg [D.v yy6,D.v yy7,D.sl false false Ty.bool yy0.g.B,D.sl false false Ty.bool yy0.g.R,D.sl false false Ty.bool yy0.g.L,D.sl false false yy2.sl yy0.W,D.sl false false yy5 (Mi yy0.M)]] (D.ptr 0 0 0) [] [Row.box 129 [D.v Value.nilFunc,D.v (Value.bool false),D.v yy3,D.v yy6,D.v yy7,D.sl false false Ty.bool yy0.g.B,D.sl false false Ty.bool yy0.g.R,D.sl false false Ty.bool yy0.g.L,D.sl false false yy2.sl yy0.W,D.sl false false yy5 (Mi yy0.M),D.v yy4]]∧Value.int .i64 g.h=Value.int .i64 yy0.g.h∧Value.int .i64 g.w=Value.int .i64 yy0.g.w∧g.B=yy0.g.B∧g.R=yy0.g.R∧g.L=yy0.g.L∧W=yy0.W∧Mi M=Mi yy0.M∧Con Tryd.prog 98 [Row.box 129 [D.fn 97 [D.ptr 1 0 0],D.v (Value.bool true),D.v yy3,D.v (Value.int .i64 yy1.g.h),D.v (Value.int .i64 yy1.g.w),D.sl false false Ty.bool yy1.g.B,D.sl false false Ty.bool yy1.g.R,D.sl false false Ty.bool yy1.g.L,D.sl false false yy2.sl yy1.W,D.sl false false yy5 (Mi yy1.M),D.v yy4],Row.box 4 [D.v (Value.bool false)]] [D.ptr 0 0 0] (D.v (Value.bool true)) [some (Row.box 129 [D.fn 97 [D.ptr 1 0 0],D.v (Value.bool true),D.own 2 0 1 none,D.v (Value.int .i64 yy1.g.h),D.v (Value.int .i64 yy1.g.w),D.sl false false Ty.bool yy1.g.B,D.sl false false Ty.bool yy1.g.R,D.sl false false Ty.bool yy1.g.L,D.sl false false yy2.sl yy1.W,D.sl false false yy5 (Mi yy1.M),D.v (Value.int .i64 (1:Int))]),some (Row.box 4 [D.v (Value.bool false)])] [Row.data 90 (yy2.prod yy2).sl [[]]]∧9=9∧0=0∧0=0∧some (Row.box 129 [D.fn 97 [D.ptr 17 0 0],D.v (Value.bool true),D.v yy3,D.v yy6,D.v yy7,D.sl false false Ty.bool yy0.g.B,D.sl false false Ty.bool yy0.g.R,D.sl false false Ty.bool yy0.g.L,D.sl false false yy2.sl yy0.W,D.sl false false yy5 (Mi yy0.M),D.v yy4])=some (Row.box 129 [D.fn 97 [D.ptr 17 0 0],D.v (Value.bool true),D.v yy3,D.v (Value.int .i64 yy1.g.h),D.v (Value.int .i64 yy1.g.w),D.sl false false Ty.bool yy1.g.B,D.sl false false Ty.bool yy1.g.R,D.sl false false Ty.bool yy1.g.L,D.sl false false yy2.sl yy1.W,D.sl false false yy5 (Mi yy1.M),D.v yy4])∧some (Row.box 4 [D.v (Value.bool false)])=some (Row.box 4 [D.v (Value.bool false)])∧(false=true→R (D.tup [D.v yy3,D.v (Value.int .i64 (130:Int))],[],[]))∧(false=false→((!true)=true→true=true∧R (D.tup [D.v yy3,D.v (Value.int .i64 (2:Int))],[],[]))∧((!true)=false→(decide ((↑1:Int)>(65000:Int))=true→R (D.tup [D.v yy3,D.v (Value.int .i64 (2:Int))],[],[]))∧(decide ((↑1:Int)>(65000:Int))=false→R (D.tup [D.own 0 0 1 none,D.v yy4],[],[Row.data 90 (yy2.prod yy2).sl [[]]])))))) hmG Tryd.func59 (by kernel_rfl) (by kernel_rfl) (fun G R=>by kernel_rfl) ?_
 try dsimp only
 try dsimp only
 have c1:=d62 g W M
 have c2:=d96R g W M
 have c3:=d98R g W M hc hM hs
 rw[hc] at c1
 have w0:((0:Int) !=0)=false:=rfl
 simp only[Nt_Mi,hc,w0]
 simp (disch:=omega) only[oo,oop,ne_eq,Ty.dflt,reduceCtorEq]
 repeat' (first|with_reducible refine And.intro ?_ ?_|intro _)
 all_goals first|rfl|omega|assumption|trivial|exact room90 (by omega)|exact c1|exact c2|exact c3|(exfalso;simp_all;done)|(exfalso;omega)|skip
end Go.Proofs.YtnakmganodkliaaDoorAm
set_option maxRecDepth 100000
namespace Go.Proofs.YtnakmganodkliaaDoorAm
open Go
theorem small1:Smalls p1.M:=by
 intro x hx
 have hx:x∈ [15,15,15,15]:=hx
 simp only[List.mem_cons,List.not_mem_nil,or_false,or_self] at hx
 rw[hx]
 decide
theorem d52R:Con Tryd.prog 52 [] [] (.v (.bool true)) [] []:=by
 refine con_vc (how:=[none]) (c:=r52) (K:=(KK r52)) spV (fun _=> []) (fun _=> []) 400 (.fork (.fork (.fork (.fork (.fork .stop .stop) (.f .stop)) (.f (.f .stop))) (.f (.f (.f .stop)))) (.f (.f (.f (.f .stop))))) (V:=fun G R=>let yy0:=(Pr.mk (Gr.mk (2:Int) (2:Int) (List.replicate 4 false) (List.replicate 4 false) (List.replicate 4 false)) (List.take 2 (List.drop 0 [List.take 2 (List.drop 0 [(0:Int),(1:Int)]),List.take 2 (List.drop 0 [(2:Int),(3:Int)])])) (Nt (List.take 4 (List.drop 0 [(15:Int),(15:Int),(15:Int),(15:Int)]))));let yy1:=(List.drop 0 (List.replicate 4 false));let yy2:=(List.drop 0 [List.take 2 (List.drop 0 [(0:Int),(1:Int)]),List.take 2 (List.drop 0 [(2:Int),(3:Int)])]);let yy3:=(List.drop 0 [(15:Int),(15:Int),(15:Int),(15:Int)]);let yy4:=(Ty.int .i64);(0:Int)≤(4:Int)∧(4:Int)≤(4:Int)∧(4:Int)≤(9223372036854775807:Int)∧4≤281474976710656∧(0:Int)≤(4:Int)∧(4:Int)≤(4:Int)∧(4:Int)≤(9223372036854775807:Int)∧4≤281474976710656∧(0:Int)≤(4:Int)∧(4:Int)≤(4:Int)∧(4:Int)≤(9223372036854775807:Int)∧4≤281474976710656∧Con Tryd.prog 55 [] [D.agg [D.v (Value.int .i64 yy0.g.h),D.v (Value.int .i64 yy0.g.w),D.sl false false Ty.bool yy0.g.B,D.sl false false Ty.bool yy0.g.R,D.sl false false Ty.bool yy0.g.L,D.sl false false yy4.sl yy0.W,D.sl false false (Ty.int .u64) (Mi yy0.M)],D.sl false false (yy4.prod yy4).sl (List.take 1 (List.drop 0 [List.take 0 (List.drop 0 [])]))] (D.tup [D.v (Value.int .i64 (checkR yy0 (List.take 1 (List.drop 0 [List.take 0 (List.drop 0 [])]))).fst),D.v (Value.int .i64 (checkR yy0 (List.take 1 (List.drop 0 [List.take 0 (List.drop 0 [])]))).snd)]) [] []∧Value.int .i64 (2:Int)=Value.int .i64 yy0.g.h∧Value.int .i64 (2:Int)=Value.int .i64 yy0.g.w∧List.take 4 yy1=yy0.g.B∧List.take 4 yy1=yy0.g.R∧List.take 4 yy1=yy0.g.L∧List.take 2 yy2=yy0.W∧List.take 4 yy3=Mi yy0.M∧(List.take 1 (List.drop 0 [List.take 0 (List.drop 0 [])]):List (List (Int×Int)))=List.take 1 (List.drop 0 [List.take 0 (List.drop 0 [])])∧Con Tryd.prog 55 [] [D.agg [D.v (Value.int .i64 yy0.g.h),D.v (Value.int .i64 yy0.g.w),D.sl false false Ty.bool yy0.g.B,D.sl false false Ty.bool yy0.g.R,D.sl false false Ty.bool yy0.g.L,D.sl false false yy4.sl yy0.W,D.sl false false (Ty.int .u64) (Mi yy0.M)],D.sl false false (yy4.prod yy4).sl []] (D.tup [D.v (Value.int .i64 (checkR yy0 []).fst),D.v (Value.int .i64 (checkR yy0 []).snd)]) [] []∧Value.int .i64 (2:Int)=Value.int .i64 yy0.g.h∧Value.int .i64 (2:Int)=Value.int .i64 yy0.g.w∧List.take 4 yy1=yy0.g.B∧List.take 4 yy1=yy0.g.R∧List.take 4 yy1=yy0.g.L∧List.take 2 yy2=yy0.W∧List.take 4 yy3=Mi yy0.M∧([]:List (List (Int×Int)))=[]∧Con Tryd.prog 59 [] [D.agg [D.v (Value.int .i64 yy0.g.h),D.v (Value.int .i64 yy0.g.w),D.sl false false Ty.bool yy0.g.B,D.sl false false Ty.bool yy0.g.R,D.sl false false Ty.bool yy0.g.L,D.sl false false yy4.sl yy0.W,D.sl false false (Ty.int .u64) (Mi yy0.M)]] (D.tup [D.lenv 1,D.v (Value.int .i64 (0:Int))]) [] []∧Value.int .i64 (2:Int)=Value.int .i64 yy0.g.h∧Value.int .i64 (2:Int)=Value.int .i64 yy0.g.w∧List.take 4 yy1=yy0.g.B∧List.take 4 yy1=yy0.g.R∧List.take 4 yy1=yy0.g.L∧List.take 2 yy2=yy0.W∧List.take 4 yy3=Mi yy0.M∧(((checkR yy0 (List.take 1 (List.drop 0 [List.take 0 (List.drop 0 [])]))).fst==(0:Int))=true→(((checkR yy0 (List.take 1 (List.drop 0 [List.take 0 (List.drop 0 [])]))).snd==(0:Int))=true→(((checkR yy0 []).fst==(0:Int))=true→(((checkR yy0 []).snd==(151:Int))=true→(((0:Int)==(0:Int))=true→R (D.v (Value.bool true),[],[]))∧(((0:Int)==(0:Int))=false→R (D.v (Value.bool false),[],[])))∧(((checkR yy0 []).snd==(151:Int))=false→false=false∧R (D.v (Value.bool false),[],[])))∧(((checkR yy0 []).fst==(0:Int))=false→false=false∧false=false∧R (D.v (Value.bool false),[],[])))∧(((checkR yy0 (List.take 1 (List.drop 0 [List.take 0 (List.drop 0 [])]))).snd==(0:Int))=false→false=false∧false=false∧false=false∧R (D.v (Value.bool false),[],[])))∧(((checkR yy0 (List.take 1 (List.drop 0 [List.take 0 (List.drop 0 [])]))).fst==(0:Int))=false→false=false∧false=false∧false=false∧false=false∧R (D.v (Value.bool false),[],[]))) hmG Tryd.func52 (by kernel_rfl) (by kernel_rfl) (fun G R=>by kernel_rfl) ?_
 try dsimp only
 try dsimp only
 obtain⟨h1,h2,h3,h4⟩:=nar1
 have c1:=d55R p1.g p1.W p1.M [[]] small1 (by intro l hl;simp only[List.mem_singleton] at hl;subst hl;simp)
 have c2:=d55R p1.g p1.W p1.M [] small1 (by simp)
 have c3:=con_lenT (d59R p1.g p1.W p1.M h1 small1 h2)
 have e1:checkR (Pr.mk (Gr.mk (2:Int) (2:Int) (List.replicate 4 false) (List.replicate 4 false) (List.replicate 4 false)) (List.take 2 (List.drop 0 [List.take 2 (List.drop 0 [(0:Int),(1:Int)]),List.take 2 (List.drop 0 [(2:Int),(3:Int)])])) (Nt (List.take 4 (List.drop 0 [(15:Int),(15:Int),(15:Int),(15:Int)])))) (List.take 1 (List.drop 0 [List.take 0 (List.drop 0 [])]))=(0,0):=h3
 have e2:checkR (Pr.mk (Gr.mk (2:Int) (2:Int) (List.replicate 4 false) (List.replicate 4 false) (List.replicate 4 false)) (List.take 2 (List.drop 0 [List.take 2 (List.drop 0 [(0:Int),(1:Int)]),List.take 2 (List.drop 0 [(2:Int),(3:Int)])])) (Nt (List.take 4 (List.drop 0 [(15:Int),(15:Int),(15:Int),(15:Int)])))) []=(0,151):=h4
 rw[show checkR ⟨p1.g,p1.W,p1.M⟩ [[]]=(0,0) from h3] at c1
 rw[show checkR ⟨p1.g,p1.W,p1.M⟩ []=(0,151) from h4] at c2
 simp only[e1,e2]
 repeat' (first|with_reducible refine And.intro ?_ ?_|intro _)
 all_goals first|rfl|omega|decide|trivial|exact c1|exact c2|exact c3|(exfalso;simp_all;done)|skip
end Go.Proofs.YtnakmganodkliaaDoorAm
set_option maxRecDepth 100000
namespace Go.Proofs.YtnakmganodkliaaDoorAm
open Go
def cutM:List Nat→List Nat→List Nat
 |m::ms,l::ls=>(m&&&l)::cutM ms ls
 |ms,_=>ms
theorem cut_len:∀(M L:List Nat),(cutM M L).length=M.length
 | [],L=>by cases L<;>rfl
 |m::ms,[]=>rfl
 |m::ms,l::ls=>by simp only[cutM,List.length_cons];rw[cut_len ms ls]
theorem cut_at:∀(M L:List Nat) (j:Nat),j<M.length→(cutM M L).getD j 0=if j<L.length then M.getD j 0&&&L.getD j 0 else M.getD j 0
 | [],L,j,h=>by simp at h
 |m::ms,[],j,h=>by simp[cutM]
 |m::ms,l::ls,0,h=>by simp[cutM]
 |m::ms,l::ls,j+1,h=>by
  simp only[cutM,List.getD_cons_succ]
  rw[cut_at ms ls j (by simpa using h)]
  simp
theorem cut_leq (M L:List Nat):Leq (cutM M L) M:=by
 intro c i hi
 have hc:c<M.length:=by have:=bit_lt hi;rwa [cut_len] at this
 unfold bitAt at hi⊢
 rw[cut_at M L c hc] at hi
 split at hi
 ·rw[Nat.testBit_and,Bool.and_eq_true] at hi
  exact hi.1
 ·exact hi
theorem take_two {α:Type} (x y:α):[x,y].take 2=[x,y]:=rfl
def twiceF (F:List (List (Int×Int))):List (List (Int×Int)):=F.flatMap fun x=> [x,x]
theorem twice_snoc (F:List (List (Int×Int))) (x:List (Int×Int)):twiceF (F++[x])=twiceF F++[x,x]:=by simp[twiceF]
theorem twice_len (F:List (List (Int×Int))):(twiceF F).length=2*F.length:=by
 induction F with
 |nil=>rfl
 |cons x F ih=>simp only[twiceF,List.flatMap_cons,List.length_append,List.length_cons,List.length_nil] at ih⊢;omega
theorem twice_at:∀(F:List (List (Int×Int))) (j:Nat),(twiceF F).getD j []=F.getD (j/2) []
 | [],j=>by simp[twiceF]
 |x::F,0=>rfl
 |x::F,1=>rfl
 |x::F,j+2=>by
  have e:(j+2)/2=j/2+1:=by omega
  rw[e]
  show(x::x::twiceF F).getD (j+2) []=_
  rw[List.getD_cons_succ,List.getD_cons_succ,List.getD_cons_succ]
  exact twice_at F j
theorem take_in {F F':List (List (Int×Int))} {a b:Nat} (h:∀k,k<a→k<F.length→∃k',k'<b∧k'<F'.length∧F'.getD k' []=F.getD k []):∀l∈F.take a,l∈F'.take b:=by
 intro l hl
 obtain⟨k,hk,rfl⟩:=List.mem_iff_getElem.1 hl
 obtain⟨e,e1,e2⟩:=take_get (d:=[]) hk
 obtain⟨k',h1,h2,h3⟩:=h k e1 e2
 rw[e,←h3,List.getD_eq_getElem?_getD,List.getElem?_eq_getElem h2]
 have:F'[k']=(F'.take b)[k']'(by rw[List.length_take];omega):=by rw[List.getElem_take]
 rw[Option.getD_some,this]
 exact List.getElem_mem _
theorem more_same {p:Pr} (hc:checkP p=0) (hM:Smalls p.M) (h:(provF p).2=0) (L:List Nat):checkR ⟨p.g,p.W,cutM p.M L⟩ (provF p).1=(0,0):=by
 obtain⟨a,b,c⟩:=prov_taken hc hM h
 have hc':checkP ⟨p.g,p.W,cutM p.M L⟩=0:=by rw[again_check (cut_len _ _)];exact hc
 exact good_check hc' (a.more hc hM (cut_len _ _) (cut_leq _ _) fun j hj=>⟨j,hj,rfl,fun l hl=>hl⟩) c b
theorem more_twice {p:Pr} (hc:checkP p=0) (hM:Smalls p.M) (h:(provF p).2=0) (h60:(provF p).1.length≤60):checkR p (twiceF (provF p).1)=(0,0):=by
 obtain⟨a,⟨P,hP⟩,c⟩:=prov_taken hc hM h
 refine good_check hc (a.more hc hM rfl (Leq.refl _) fun j hj=> ?_) (by rw[twice_len];omega) ⟨twiceF P++[[]],by rw[hP,twice_snoc,List.append_assoc];rfl⟩
 rw[twice_len] at hj
 refine⟨j/2,by omega,twice_at _ j,take_in fun k h1 h2=>⟨2*k,by omega,by rw[twice_len];omega,?_⟩⟩
 rw[twice_at,show 2*k/2=k by omega]
def vq28 (g:Gr) (W:List (List Int)) (M:List Nat) (F:List (List (Int×Int))) (T:List (List (Int×Int))) (L:List Nat) (i:Int) (Q:List Nat) (G:Nat→St→Prop) (R:D×List (Option Row)×List Row→Prop):Prop:=let yy0:=(Pr.mk g (List.take W.length (List.drop 0 W)) (Nt (List.take Q.length (List.drop 0 (Mi Q)))));let yy1:=(Pr.mk g W (Nt (Mi M)));let yy2:=(Ty.int .i64);let yy3:=(List.take F.length (List.drop 0 F));let yy4:=(Row.box 73 [D.v (Value.int .i64 g.h),D.v (Value.int .i64 g.w),D.sl false false Ty.bool g.B,D.sl false false Ty.bool g.R,D.sl false false Ty.bool g.L,D.sl false false yy2.sl W,D.sl false false (Ty.int .u64) (Mi M)]);let yy5:=(Row.box 73 [D.v (Value.int .i64 g.h),D.v (Value.int .i64 g.w),D.own 4 0 g.B.length none,D.own 5 0 g.R.length none,D.own 6 0 g.L.length none,D.own 7 0 W.length none,D.own 8 0 Q.length none]);let yy6:=(checkR yy1 (List.take T.length (List.drop 0 T)));let yy7:=(Ty.int .u64);(decide (i< (↑M.length:Int))=true→(decide (i< (↑(Mi L).length:Int))=true→(0:Int)≤i∧i< (↑Q.length:Int)∧0+i.toNat< (Mi Q).length∧(0:Int)≤i∧i< (↑(Mi L).length:Int)∧(0:Int)≤i∧i< (↑Q.length:Int)∧0+i.toNat< (Mi Q).length∧SameK (KK u15 1) (KK u15 1)∧G 1 (stOf 103 [1,2,5,7,10,55,56] [D.sl false false yy7 (Mi L),D.ptr 0 0 0,D.own 1 0 F.length none,D.own 2 0 T.length none,D.ptr 3 0 0,D.v (Value.int .i64 (↑M.length:Int)),D.v (Value.int .i64 (IntKind.i64.wrap (i+(1:Int))))] [Slot.live yy4,Slot.live (Row.data 90 (yy2.prod yy2).sl F),Slot.live (Row.data 90 (yy2.prod yy2).sl T),Slot.live yy5,Slot.live (Row.data 4 Ty.bool g.B),Slot.live (Row.data 4 Ty.bool g.R),Slot.live (Row.data 4 Ty.bool g.L),Slot.live (Row.data 27 yy2.sl W),Slot.live (Row.data 22 yy7 ((Mi Q).set (0+i.toNat) (IntKind.u64.wrap (↑(BitVec.ofInt 64 ((Mi Q).getD (0+i.toNat) yy7.dflt)&&&BitVec.ofInt 64 ((Mi L).getD i.toNat yy7.dflt)).toNat:Int))))]))∧(decide (i< (↑(Mi L).length:Int))=false→SameK (KK u15 1) (KK u15 1)∧G 1 (stOf 103 [1,2,5,7,10,55,56] [D.sl false false yy7 (Mi L),D.ptr 0 0 0,D.own 1 0 F.length none,D.own 2 0 T.length none,D.ptr 3 0 0,D.v (Value.int .i64 (↑M.length:Int)),D.v (Value.int .i64 (IntKind.i64.wrap (i+(1:Int))))] [Slot.live yy4,Slot.live (Row.data 90 (yy2.prod yy2).sl F),Slot.live (Row.data 90 (yy2.prod yy2).sl T),Slot.live yy5,Slot.live (Row.data 4 Ty.bool g.B),Slot.live (Row.data 4 Ty.bool g.R),Slot.live (Row.data 4 Ty.bool g.L),Slot.live (Row.data 27 yy2.sl W),Slot.live (Row.data 22 yy7 (Mi Q))])))∧(decide (i< (↑M.length:Int))=false→Con Tryd.prog 55 [] [D.agg [D.v (Value.int .i64 yy1.g.h),D.v (Value.int .i64 yy1.g.w),D.sl false false Ty.bool yy1.g.B,D.sl false false Ty.bool yy1.g.R,D.sl false false Ty.bool yy1.g.L,D.sl false false yy2.sl yy1.W,D.sl false false yy7 (Mi yy1.M)],D.sl false false (yy2.prod yy2).sl yy3] (D.tup [D.v (Value.int .i64 (checkR yy1 yy3).fst),D.v (Value.int .i64 (checkR yy1 yy3).snd)]) [] []∧Value.int .i64 g.h=Value.int .i64 yy1.g.h∧Value.int .i64 g.w=Value.int .i64 yy1.g.w∧g.B=yy1.g.B∧g.R=yy1.g.R∧g.L=yy1.g.L∧W=yy1.W∧Mi M=Mi yy1.M∧List.take F.length (List.drop 0 F)=List.take F.length (List.drop 0 F)∧Con Tryd.prog 55 [] [D.agg [D.v (Value.int .i64 yy1.g.h),D.v (Value.int .i64 yy1.g.w),D.sl false false Ty.bool yy1.g.B,D.sl false false Ty.bool yy1.g.R,D.sl false false Ty.bool yy1.g.L,D.sl false false yy2.sl yy1.W,D.sl false false yy7 (Mi yy1.M)],D.sl false false (yy2.prod yy2).sl (List.take T.length (List.drop 0 T))] (D.tup [D.v (Value.int .i64 yy6.fst),D.v (Value.int .i64 yy6.snd)]) [] []∧Value.int .i64 g.h=Value.int .i64 yy1.g.h∧Value.int .i64 g.w=Value.int .i64 yy1.g.w∧g.B=yy1.g.B∧g.R=yy1.g.R∧g.L=yy1.g.L∧W=yy1.W∧Mi M=Mi yy1.M∧List.take T.length (List.drop 0 T)=List.take T.length (List.drop 0 T)∧Con Tryd.prog 55 [] [D.agg [D.v (Value.int .i64 yy0.g.h),D.v (Value.int .i64 yy0.g.w),D.sl false false Ty.bool yy0.g.B,D.sl false false Ty.bool yy0.g.R,D.sl false false Ty.bool yy0.g.L,D.sl false false yy2.sl yy0.W,D.sl false false yy7 (Mi yy0.M)],D.sl false false (yy2.prod yy2).sl yy3] (D.tup [D.v (Value.int .i64 (checkR yy0 yy3).fst),D.v (Value.int .i64 (checkR yy0 yy3).snd)]) [] []∧Value.int .i64 g.h=Value.int .i64 yy0.g.h∧Value.int .i64 g.w=Value.int .i64 yy0.g.w∧List.take g.B.length (List.drop 0 g.B)=yy0.g.B∧List.take g.R.length (List.drop 0 g.R)=yy0.g.R∧List.take g.L.length (List.drop 0 g.L)=yy0.g.L∧List.take W.length (List.drop 0 W)=yy0.W∧List.take Q.length (List.drop 0 (Mi Q))=Mi yy0.M∧List.take F.length (List.drop 0 F)=List.take F.length (List.drop 0 F)∧(((checkR yy1 yy3).snd==(0:Int))=true→((yy6.snd==(0:Int))=true→R (D.v (Value.bool ((checkR yy0 yy3).snd==(0:Int))),[],[]))∧((yy6.snd==(0:Int))=false→R (D.v (Value.bool false),[],[])))∧(((checkR yy1 yy3).snd==(0:Int))=false→false=false∧R (D.v (Value.bool false),[],[])))
theorem e15U1 (g:Gr) (W:List (List Int)) (M:List Nat) (F T:List (List (Int×Int))) (L:List Nat) (hM:Smalls M) (hc:checkP ⟨g,W,M⟩=0) (hL:Smalls L) (hLl:L.length≤17592186044416) (hf:(provF ⟨g,W,M⟩).2=0) (hF:F=(provF ⟨g,W,M⟩).1) (h60:F.length≤60) (hT:T=twiceF F) (z:Nat):∀(i:Int) (Q:List Nat),0≤i→i+z=M.length→Q.length=M.length→Smalls Q→(∀j:Nat,Q.getD j 0=if(j:Int)<i then(cutM M L).getD j 0 else M.getD j 0)→GetsK Tryd.prog Tryd.f15.results.toList [none] (KK u15) 0 (.v (.bool true),[],[]) 1 (stOf 103 [1,2,5,7,10,55,56] [slU L,.ptr 0 0 0,.own 1 0 F.length none,.own 2 0 T.length none,.ptr 3 0 0,.v (.int .i64 M.length),.v (.int .i64 i)] [.live (.box 73 [.v (.int .i64 g.h),.v (.int .i64 g.w),.sl false false .bool g.B,.sl false false .bool g.R,.sl false false .bool g.L,slW W,slU M]),.live (.data 90 BT F),.live (.data 90 BT T),.live (.box 73 [.v (.int .i64 g.h),.v (.int .i64 g.w),.own 4 0 g.B.length none,.own 5 0 g.R.length none,.own 6 0 g.L.length none,.own 7 0 W.length none,.own 8 0 Q.length none]),.live (.data 4 .bool g.B),.live (.data 4 .bool g.R),.live (.data 4 .bool g.L),.live (.data 27 WT W),.live (.data 22 (.int .u64) (Mi Q))]):=by
 have hml:=(right_fits hc hM).2.1
 induction z with
 |zero=>
  intro i Q i0 hi hQ hs hq
  have eQ:Q=cutM M L:=by
   apply List.ext_getElem (by rw[hQ,cut_len])
   intro j h1 h2
   have:=hq j
   rw[if_pos (by omega),List.getD_eq_getElem?_getD,List.getD_eq_getElem?_getD,List.getElem?_eq_getElem h1,List.getElem?_eq_getElem h2] at this
   exact this
  have hb:∀l∈F,l.length≤8796093022208:=fun l hl=>by
   have t:=runS_ok hc [] (0,[],false) ⟨by simp,by simp,fun l hl=>by simp at hl⟩ (by simp) ⟨by simp,fun x hx=>by simp at hx⟩
   rw[hF] at hl
   have e:=t.ok.each
   unfold provF at hl
   rw[if_pos hc] at hl
   split at hl
   ·simp at hl
   ·split at hl
    ·simp at hl
    ·have:=(e l hl).1
     omega
  have hb2:∀l∈T,l.length≤8796093022208:=fun l hl=>by
   rw[hT] at hl
   unfold twiceF at hl
   rw[List.mem_flatMap] at hl
   obtain⟨a,ha,hl⟩:=hl
   simp only[List.mem_cons,List.not_mem_nil,or_false,or_self] at hl
   rw[hl]
   exact hb a ha
  have c1:=d55R g W M F hM hb
  have c2:=d55R g W M T hM hb2
  have c3:=d55R g W (cutM M L) F (leq_small (cut_leq M L) hM) hb
  have k1:=prov_checked hc hM hf
  have k2:=more_twice hc hM hf (by rw[←hF];exact h60)
  have k3:=more_same hc hM hf L
  rw[←hF] at k1 k2 k3
  rw[←hT] at k2
  rw[k1] at c1
  rw[k2] at c2
  simp only at k3
  rw[k3] at c3
  rw[←eQ] at c3 k3
  refine gets_vc spW2 (fun k=> [[1,2,5,7,39,40,41],[1,2,5,7,10,55,56]].getD k []) (fun k=>if k=0 then [⟨7,90,BT⟩] else []) 400 (.fork (.fork (.hd 1) (.hd 1)) (.fork (.fork .stop .stop) (.f .stop))) (V:=vq28 g W M F T L i Q) hmG (fun G R=>by kernel_rfl) ?_
  unfold vq28
  try dsimp only
  have w:decide (i< (M.length:Int))=false:=decide_eq_false (by omega)
  simp only[w,Nt_Mi,take_len,List.drop_zero,List.take_length,Mi_getD,Mi_len,Nt_Mi,Int.toNat_natCast,Mi_set,Nat.zero_add,Nat.sub_zero,List.length_set,take_one,takeSn,List.take_zero,List.nil_append,List.length_append,List.length_cons,List.length_nil,Mi_take,k1,k2,k3]
  simp (disch:=omega) only[oo,oop,ne_eq,Ty.dflt,reduceCtorEq]
  repeat' (first|with_reducible refine And.intro ?_ ?_|intro _)
  all_goals first|rfl|omega|assumption|trivial|exact room90 (by omega)|(exfalso;simp_all;done)|(exfalso;omega)|skip
 |succ z ih=>
  intro i Q i0 hi hQ hs hq
  have hi1:IntKind.i64.wrap (i+1)=i+1:=wrG (by omega) (by omega)
  have w:decide (i< (M.length:Int))=true:=decide_eq_true (by omega)
  have hqi:=hq i.toNat
  rw[if_neg (by omega)] at hqi
  have hcut:=cut_at M L i.toNat (by omega)
  by_cases hl:i< (L.length:Int)
  ·have w2:decide (i< (L.length:Int))=true:=decide_eq_true hl
   have e1:=andU (hs.at i.toNat) (hL.at i.toNat)
   have hsm:Q.getD i.toNat 0&&&L.getD i.toNat 0<W64:=and_lt (hs.at _)
   have e2:=wrU' hsm
   have hg:=ih (i+1) (Q.set i.toNat (Q.getD i.toNat 0&&&L.getD i.toNat 0)) (by omega) (by omega) (by rw[List.length_set];exact hQ) (fun y hy=>by
    rcases List.mem_or_eq_of_mem_set hy with h|h
    ·exact hs y h
    ·rw[h];exact hsm) (fun j=>by
    rw[getD_set_nat]
    split
    ·rename_i h
     rw[if_pos (by omega),←h.1,hcut,if_pos (by omega),hqi]
    ·rename_i h
     rw[hq j]
     by_cases hj:(j:Int)<i
     ·rw[if_pos hj,if_pos (by omega)]
     ·have:j≠i.toNat:=fun e=>h ⟨e.symm,by omega⟩
      rw[if_neg hj,if_neg (by omega)])
   rw[List.length_set] at hg
   refine gets_vc spW2 (fun k=> [[1,2,5,7,39,40,41],[1,2,5,7,10,55,56]].getD k []) (fun k=>if k=0 then [⟨7,90,BT⟩] else []) 400 (.fork (.fork (.hd 1) (.hd 1)) (.fork (.fork .stop .stop) (.f .stop))) (V:=vq28 g W M F T L i Q) hmG (fun G R=>by kernel_rfl) ?_
   unfold vq28
   try dsimp only
   simp only[w,hi1,Ty.dflt,take_len,List.drop_zero,List.take_length,Mi_getD,Mi_len,Nt_Mi,Int.toNat_natCast,Mi_set,Nat.zero_add,Nat.sub_zero,List.length_set,take_one,takeSn,List.take_zero,List.nil_append,List.length_append,List.length_cons,List.length_nil,Mi_take,w2,e1,e2]
   simp (disch:=omega) only[oo,oop,ne_eq,Ty.dflt,reduceCtorEq]
   repeat' (first|with_reducible refine And.intro ?_ ?_|intro _)
   all_goals first|rfl|omega|assumption|trivial|exact room90 (by omega)|(exfalso;simp_all;done)|(exfalso;omega)|skip
  ·have w2:decide (i< (L.length:Int))=false:=decide_eq_false hl
   have hg:=ih (i+1) Q (by omega) (by omega) hQ hs (fun j=>by
    rw[hq j]
    by_cases hj:(j:Int)<i
    ·rw[if_pos hj,if_pos (by omega)]
    ·rw[if_neg hj]
     split
     ·have e:j=i.toNat:=by omega
      rw[e,hcut,if_neg (by omega)]
     ·rfl)
   refine gets_vc spW2 (fun k=> [[1,2,5,7,39,40,41],[1,2,5,7,10,55,56]].getD k []) (fun k=>if k=0 then [⟨7,90,BT⟩] else []) 400 (.fork (.fork (.hd 1) (.hd 1)) (.fork (.fork .stop .stop) (.f .stop))) (V:=vq28 g W M F T L i Q) hmG (fun G R=>by kernel_rfl) ?_
   unfold vq28
   try dsimp only
   simp only[w,hi1,Ty.dflt,take_len,List.drop_zero,List.take_length,Mi_getD,Mi_len,Nt_Mi,Int.toNat_natCast,Mi_set,Nat.zero_add,Nat.sub_zero,List.length_set,take_one,takeSn,List.take_zero,List.nil_append,List.length_append,List.length_cons,List.length_nil,Mi_take,w2]
   simp (disch:=omega) only[oo,oop,ne_eq,Ty.dflt,reduceCtorEq]
   repeat' (first|with_reducible refine And.intro ?_ ?_|intro _)
   all_goals first|rfl|omega|assumption|trivial|exact room90 (by omega)|(exfalso;simp_all;done)|(exfalso;omega)|skip
def vq29 (g:Gr) (W:List (List Int)) (M:List Nat) (F:List (List (Int×Int))) (L:List Nat) (i:Int) (T:List (List (Int×Int))) (G:Nat→St→Prop) (R:D×List (Option Row)×List Row→Prop):Prop:=let yy0:=(Pr.mk g W (Nt (Mi M)));let yy1:=(Ty.int .i64);let yy2:=(Row.box 73 [D.v (Value.int .i64 g.h),D.v (Value.int .i64 g.w),D.sl false false Ty.bool g.B,D.sl false false Ty.bool g.R,D.sl false false Ty.bool g.L,D.sl false false yy1.sl W,D.sl false false (Ty.int .u64) (Mi M)]);let yy3:=(Ty.int .u64);(decide (i< (↑F.length:Int))=true→(0:Int)≤i∧i< (↑F.length:Int)∧0+i.toNat<F.length∧roomy Tryd.prog 90 (T.length+2)∧SameK (KK u15 0) (KK u15 0)∧G 0 (stOf 103 [1,2,5,7,39,40,41] [D.sl false false yy3 (Mi L),D.ptr 0 0 0,D.own 1 0 F.length none,D.own 2 0 (T.length+2) none,D.own 1 0 F.length none,D.v (Value.int .i64 (↑F.length:Int)),D.v (Value.int .i64 (IntKind.i64.wrap (i+(1:Int))))] [Slot.live yy2,Slot.live (Row.data 90 (yy1.prod yy1).sl F),Slot.live (Row.data 90 (yy1.prod yy1).sl (List.take T.length (List.drop 0 T)++List.take 2 (List.drop 0 [F.getD (0+i.toNat) (yy1.prod yy1).sl.dflt,F.getD (0+i.toNat) (yy1.prod yy1).sl.dflt])))]))∧(decide (i< (↑F.length:Int))=false→Con Tryd.prog 53 [] [D.agg [D.v (Value.int .i64 yy0.g.h),D.v (Value.int .i64 yy0.g.w),D.sl false false Ty.bool yy0.g.B,D.sl false false Ty.bool yy0.g.R,D.sl false false Ty.bool yy0.g.L,D.sl false false yy1.sl yy0.W,D.sl false false yy3 (Mi yy0.M)]] (D.agg [D.v (Value.int .i64 yy0.g.h),D.v (Value.int .i64 yy0.g.w),D.own 0 0 yy0.g.B.length none,D.own 1 0 yy0.g.R.length none,D.own 2 0 yy0.g.L.length none,D.own 3 0 yy0.W.length none,D.own 4 0 yy0.M.length none]) [] [Row.data 4 Ty.bool yy0.g.B,Row.data 4 Ty.bool yy0.g.R,Row.data 4 Ty.bool yy0.g.L,Row.data 27 yy1.sl yy0.W,Row.data 22 yy3 (Mi yy0.M)]∧Value.int .i64 g.h=Value.int .i64 yy0.g.h∧Value.int .i64 g.w=Value.int .i64 yy0.g.w∧g.B=yy0.g.B∧g.R=yy0.g.R∧g.L=yy0.g.L∧W=yy0.W∧Mi M=Mi yy0.M∧SameK (KK u15 1) (KK u15 1)∧G 1 (stOf 103 [1,2,5,7,10,55,56] [D.sl false false yy3 (Mi L),D.ptr 0 0 0,D.own 1 0 F.length none,D.own 2 0 T.length none,D.ptr 3 0 0,D.v (Value.int .i64 (↑yy0.M.length:Int)),D.v (Value.int .i64 (0:Int))] [Slot.live yy2,Slot.live (Row.data 90 (yy1.prod yy1).sl F),Slot.live (Row.data 90 (yy1.prod yy1).sl T),Slot.live (Row.box 73 [D.v (Value.int .i64 yy0.g.h),D.v (Value.int .i64 yy0.g.w),D.own 4 0 yy0.g.B.length none,D.own 5 0 yy0.g.R.length none,D.own 6 0 yy0.g.L.length none,D.own 7 0 yy0.W.length none,D.own 8 0 yy0.M.length none]),Slot.live (Row.data 4 Ty.bool yy0.g.B),Slot.live (Row.data 4 Ty.bool yy0.g.R),Slot.live (Row.data 4 Ty.bool yy0.g.L),Slot.live (Row.data 27 yy1.sl yy0.W),Slot.live (Row.data 22 yy3 (Mi yy0.M))]))
theorem e15U0 (g:Gr) (W:List (List Int)) (M:List Nat) (F:List (List (Int×Int))) (L:List Nat) (hfit:(Pr.mk g W M).fits) (hM:Smalls M) (hc:checkP ⟨g,W,M⟩=0) (hL:Smalls L) (hLl:L.length≤17592186044416) (hf:(provF ⟨g,W,M⟩).2=0) (hF:F=(provF ⟨g,W,M⟩).1) (h60:F.length≤60) (z:Nat):∀(i:Int) (T:List (List (Int×Int))),0≤i→i+z=F.length→T=twiceF (F.take i.toNat)→GetsK Tryd.prog Tryd.f15.results.toList [none] (KK u15) 0 (.v (.bool true),[],[]) 0 (stOf 103 [1,2,5,7,39,40,41] [slU L,.ptr 0 0 0,.own 1 0 F.length none,.own 2 0 T.length none,.own 1 0 F.length none,.v (.int .i64 F.length),.v (.int .i64 i)] [.live (.box 73 [.v (.int .i64 g.h),.v (.int .i64 g.w),.sl false false .bool g.B,.sl false false .bool g.R,.sl false false .bool g.L,slW W,slU M]),.live (.data 90 BT F),.live (.data 90 BT T)]):=by
 induction z with
 |zero=>
  intro i T i0 hi hT
  rw[List.take_of_length_le (by omega)] at hT
  have c1:=d58 g W M hfit.g hfit.W hfit.w hfit.M
  have hg:=e15U1 g W M F T L hM hc hL hLl hf hF h60 hT M.length 0 M (by omega) (by omega) rfl hM (fun j=>by rw[if_neg (by omega)])
  refine gets_vc spW2 (fun k=> [[1,2,5,7,39,40,41],[1,2,5,7,10,55,56]].getD k []) (fun k=>if k=0 then [⟨7,90,BT⟩] else []) 400 (.fork (.hd 0) (.hd 1)) (V:=vq29 g W M F L i T) hmG (fun G R=>by kernel_rfl) ?_
  unfold vq29
  try dsimp only
  have w:decide (i< (F.length:Int))=false:=decide_eq_false (by omega)
  simp only[w,Nt_Mi]
  simp (disch:=omega) only[oo,oop,ne_eq,Ty.dflt,reduceCtorEq]
  repeat' (first|with_reducible refine And.intro ?_ ?_|intro _)
  all_goals first|rfl|omega|assumption|trivial|exact room90 (by omega)|(exfalso;simp_all;done)|(exfalso;omega)|skip
 |succ z ih=>
  intro i T i0 hi hT
  have hi1:IntKind.i64.wrap (i+1)=i+1:=wrG (by omega) (by omega)
  have hg:=ih (i+1) (T++[F.getD i.toNat [],F.getD i.toNat []]) (by omega) (by omega) (by rw[take_succ_at ([]:List (Int×Int)) F i0 (by omega),twice_snoc,hT])
  rw[List.length_append] at hg
  have hTl:T.length≤120:=by rw[hT,twice_len,List.length_take];omega
  refine gets_vc spW2 (fun k=> [[1,2,5,7,39,40,41],[1,2,5,7,10,55,56]].getD k []) (fun k=>if k=0 then [⟨7,90,BT⟩] else []) 400 (.fork (.hd 0) (.hd 1)) (V:=vq29 g W M F L i T) hmG (fun G R=>by kernel_rfl) ?_
  unfold vq29
  try dsimp only
  have w:decide (i< (F.length:Int))=true:=decide_eq_true (by omega)
  simp only[w,hi1,Ty.dflt,take_len,List.drop_zero,List.take_length,Mi_getD,Mi_len,Nt_Mi,Int.toNat_natCast,Mi_set,Nat.zero_add,Nat.sub_zero,List.length_set,take_one,takeSn,List.take_zero,List.nil_append,List.length_append,List.length_cons,List.length_nil,Mi_take,take_two]
  simp (disch:=omega) only[oo,oop,ne_eq,Ty.dflt,reduceCtorEq]
  repeat' (first|with_reducible refine And.intro ?_ ?_|intro _)
  all_goals first|rfl|omega|assumption|trivial|exact room90 (by omega)|(exfalso;simp_all;done)|(exfalso;omega)|skip
theorem d15U (g:Gr) (W:List (List Int)) (M:List Nat) (L:List Nat) (hfit:(Pr.mk g W M).fits) (hL:Smalls L) (hLl:L.length≤17592186044416):Con Tryd.prog 15 [] [.agg [.v (.int .i64 g.h),.v (.int .i64 g.w),.sl false false .bool g.B,.sl false false .bool g.R,.sl false false .bool g.L,slW W,slU M],slU L] (.v (.bool true)) [] []:=by
 refine con_vc (how:=[none]) (c:=u15) (K:=(KK u15)) spW2 (fun k=> [[1,2,5,7,39,40,41],[1,2,5,7,10,55,56]].getD k []) (fun k=>if k=0 then [⟨7,90,BT⟩] else []) 400 (.fork .stop (.fork (.t (.fork .stop .stop)) (.fork (.fork .stop .stop) (.hd 0)))) (V:=fun G R=>let yy0:=(Pr.mk g W (Nt (Mi M)));let yy1:=(Ty.int .i64);let yy2:=(↑(provF yy0).fst.length:Int);let yy3:=((provF yy0).snd==(0:Int));Con Tryd.prog 52 [] [] (D.v (Value.bool true)) [] []∧((!true)=true→R (D.v (Value.bool false),[],[]))∧((!true)=false→Con Tryd.prog 59 [] [D.agg [D.v (Value.int .i64 yy0.g.h),D.v (Value.int .i64 yy0.g.w),D.sl false false Ty.bool yy0.g.B,D.sl false false Ty.bool yy0.g.R,D.sl false false Ty.bool yy0.g.L,D.sl false false yy1.sl yy0.W,D.sl false false (Ty.int .u64) (Mi yy0.M)]] (D.tup [D.own 0 0 (provF yy0).fst.length none,D.v (Value.int .i64 (provF yy0).snd)]) [] [Row.data 90 (yy1.prod yy1).sl (provF yy0).fst]∧Value.int .i64 g.h=Value.int .i64 yy0.g.h∧Value.int .i64 g.w=Value.int .i64 yy0.g.w∧g.B=yy0.g.B∧g.R=yy0.g.R∧g.L=yy0.g.L∧W=yy0.W∧Mi M=Mi yy0.M∧(((provF yy0).snd !=(0:Int))=true→true=true∧(yy3=true→R (D.v (Value.bool true),[],[]))∧(yy3=false→R (D.v (Value.bool (yy2==(0:Int))),[],[])))∧(((provF yy0).snd !=(0:Int))=false→(decide (yy2>(60:Int))=true→(yy3=true→R (D.v (Value.bool true),[],[]))∧(yy3=false→R (D.v (Value.bool (yy2==(0:Int))),[],[])))∧(decide (yy2>(60:Int))=false→SameK (KK u15 0) (KK u15 0)∧G 0 (stOf 103 [1,2,5,7,39,40,41] [D.sl false false (Ty.int .u64) (Mi L),D.ptr 0 0 0,D.own 1 0 (provF yy0).fst.length none,D.own 2 0 0 none,D.own 1 0 (provF yy0).fst.length none,D.v (Value.int .i64 yy2),D.v (Value.int .i64 (0:Int))] [Slot.live (Row.box 73 [D.v (Value.int .i64 g.h),D.v (Value.int .i64 g.w),D.sl false false Ty.bool g.B,D.sl false false Ty.bool g.R,D.sl false false Ty.bool g.L,D.sl false false yy1.sl W,D.sl false false (Ty.int .u64) (Mi M)]),Slot.live (Row.data 90 (yy1.prod yy1).sl (provF yy0).fst),Slot.live (Row.data 90 (yy1.prod yy1).sl [])]))))) hmG Tryd.func15 (by kernel_rfl) (by kernel_rfl) (fun G R=>by kernel_rfl) ?_
 try dsimp only
 try dsimp only
 have c0:=d52R
 have c1:=d59U g W M hfit.small
 simp only[Nt_Mi]
 obtain⟨q,hq⟩:∃q,provF ⟨g,W,M⟩=q:=⟨_,rfl⟩
 have hne:q.2≠0→q.1=[]:=by
  rw[←hq]
  unfold provF
  split
  ·split
   ·exact fun _=>rfl
   ·split
    ·exact fun _=>rfl
    ·exact fun h=>absurd rfl h
  ·exact fun _=>rfl
 have hcz:q.2=0→checkP ⟨g,W,M⟩=0:=by
  rw[←hq]
  unfold provF
  split
  ·rename_i h
   exact fun _=>h
  ·exact id
 rw[hq] at c1
 simp only[hq]
 by_cases h0:q.2=0
 ·have w:(q.2 !=0)=false:=by rw[h0];rfl
  have w2:(q.2==0)=true:=by rw[h0];rfl
  by_cases h60:(q.1.length:Int)>60
  ·have w3:decide ((q.1.length:Int)>60)=true:=decide_eq_true h60
   simp only[w,w2,w3]
   simp (disch:=omega) only[oo,oop,ne_eq,Ty.dflt,reduceCtorEq]
   repeat' (first|with_reducible refine And.intro ?_ ?_|intro _)
   all_goals first|rfl|omega|assumption|trivial|exact room90 (by omega)|(exfalso;simp_all;done)|(exfalso;omega)|skip
  ·have w3:decide ((q.1.length:Int)>60)=false:=decide_eq_false h60
   have hg:=e15U0 g W M q.1 L hfit hfit.small (hcz h0) hL hLl (by rw[hq];exact h0) (by rw[hq]) (by omega) q.1.length 0 [] (by omega) (by omega) rfl
   simp only[w,w2,w3]
   simp (disch:=omega) only[oo,oop,ne_eq,Ty.dflt,reduceCtorEq]
   repeat' (first|with_reducible refine And.intro ?_ ?_|intro _)
   all_goals first|rfl|omega|assumption|trivial|exact room90 (by omega)|(exfalso;simp_all;done)|(exfalso;omega)|skip
 ·have w:(q.2 !=0)=true:=by rw[bne_iff_ne];exact h0
  have w2:(q.2==0)=false:=by rw[beq_eq_false_iff_ne];exact h0
  have hl:=hne h0
  have w3:((q.1.length:Int)==0)=true:=by rw[hl];rfl
  simp only[w,w2,w3]
  simp (disch:=omega) only[oo,oop,ne_eq,Ty.dflt,reduceCtorEq]
  repeat' (first|with_reducible refine And.intro ?_ ?_|intro _)
  all_goals first|rfl|omega|assumption|trivial|exact room90 (by omega)|(exfalso;simp_all;done)|(exfalso;omega)|skip
end Go.Proofs.YtnakmganodkliaaDoorAm
