/- Refutations: Check of any problem and any nogoods, and what it leans on. (part 9) -/
import Derived.Test.YtnakmganodkliaaDoorPrh
set_option linter.unusedVariables false
set_option linter.unusedSimpArgs false
set_option maxRecDepth 100000
namespace Go.Proofs.YtnakmganodkliaaDoorAm
open Go
def vq36 (W:List (List Int)) (S:List Slt) (n:Nat) (m:List Nat) (ms:List (List Int)) (C:List Int) (s:Int) (k:Int) (ok:Bool) (G:Nat→St→Prop) (R:D×List (Option Row)×List Row→Prop):Prop:=let yy0:=(Ty.int .i64);let yy1:=(Row.box 176 [D.sl false false yy0.sl W,D.sl false false (yy0.prod (Ty.bool.prod yy0.sl)) S,D.own 3 0 n (some n),D.own 4 0 ms.length none]);let yy2:=(Row.box 151 [D.v (Value.slice none 0 0),D.v (Value.slice none 0 0),D.v (Value.bool false)]);let yy3:=(Row.nest (NK.mk 27 yy0.sl 0 3 yy0) ms none);let yy4:=(Value.int .i64 (↑S.length:Int));let yy5:=(Row.data 22 (Ty.int .u64) (Mi m));(decide (k< (↑C.length:Int))=true→(0:Int)≤k∧k< (↑C.length:Int)∧(ok=true→(0:Int)≤C.getD k.toNat yy0.dflt∧C.getD k.toNat yy0.dflt< (↑n:Int)∧0+Int.toNat (C.getD k.toNat yy0.dflt)< (Mi m).length∧SameK (KK n59 4) (KK n59 4)∧G 4 (stOf 143 [2,5,15,99,100,101,121,122,123] [D.ptr 0 0 0,D.ptr 1 0 0,D.ptr 2 0 0,D.sl false false (yy0.prod (Ty.bool.prod yy0.sl)) S,D.v yy4,D.v (Value.int .i64 s),D.sl false false yy0 C,D.v (Value.int .i64 (↑C.length:Int)),D.v (Value.int .i64 (IntKind.i64.wrap (k+(1:Int))))] [Slot.live yy2,Slot.live yy1,Slot.live (Row.box 151 [D.own 3 0 n (some n),D.own 4 0 ms.length none,D.v (Value.bool ((Mi m).getD (0+Int.toNat (C.getD k.toNat yy0.dflt)) (Ty.int .u64).dflt !=(0:Int)))]),Slot.live yy5,Slot.live yy3]))∧(ok=false→SameK (KK n59 4) (KK n59 4)∧G 4 (stOf 143 [2,5,15,99,100,101,121,122,123] [D.ptr 0 0 0,D.ptr 1 0 0,D.ptr 2 0 0,D.sl false false (yy0.prod (Ty.bool.prod yy0.sl)) S,D.v yy4,D.v (Value.int .i64 s),D.sl false false yy0 C,D.v (Value.int .i64 (↑C.length:Int)),D.v (Value.int .i64 (IntKind.i64.wrap (k+(1:Int))))] [Slot.live yy2,Slot.live yy1,Slot.live (Row.box 151 [D.own 3 0 n (some n),D.own 4 0 ms.length none,D.v (Value.bool false)]),Slot.live yy5,Slot.live yy3])))∧(decide (k< (↑C.length:Int))=false→SameK (KK n59 3) (KK n59 3)∧G 3 (stOf 143 [2,5,15,99,100,101] [D.ptr 0 0 0,D.ptr 1 0 0,D.ptr 2 0 0,D.sl false false (yy0.prod (Ty.bool.prod yy0.sl)) S,D.v yy4,D.v (Value.int .i64 (IntKind.i64.wrap (s+(1:Int))))] [Slot.live yy2,Slot.live yy1,Slot.live (Row.box 151 [D.own 3 0 n (some n),D.own 4 0 ms.length none,D.v (Value.bool ok)]),Slot.live yy5,Slot.live yy3]))
theorem e59d (W:List (List Int)) (S:List Slt) (n:Nat) (m:List Nat) (ms:List (List Int)) (C:List Int) (s:Int) (hm:m.length=n) (s0:0≤s) (s1:s<1000) (hC:∀c∈C,0≤c∧c<n) (hc:C.length≤300) (rest:Bool) (rE:Bool) (hx:∀ok,rE=(ok&&rest)→GetsK Tryd.prog Tryd.f123.results.toList [none,none] (KK n59) 0 (.tup [.agg [.own 0 0 n none,.own 1 0 ms.length none,.v (.bool rE)],.v (.int .i64 0)],[],[.data 22 (.int .u64) (Mi m),.nest kW ms none]) 3 (stOf 143 [2,5,15,99,100,101] [.ptr 0 0 0,.ptr 1 0 0,.ptr 2 0 0,slS S,.v (.int .i64 S.length),.v (.int .i64 (s+1))] [.live (.box 151 [.v (.slice none 0 0),.v (.slice none 0 0),.v (.bool false)]),.live (.box 176 [slW W,slS S,.own 3 0 n (some n),.own 4 0 ms.length none]),.live (.box 151 [.own 3 0 n (some n),.own 4 0 ms.length none,.v (.bool ok)]),.live (.data 22 (.int .u64) (Mi m)),.live (.nest kW ms none)])) (z:Nat):∀(k:Int) (ok:Bool),0≤k→k+z=C.length→rE=((ok&&(C.drop k.toNat).all (nzB m))&&rest)→GetsK Tryd.prog Tryd.f123.results.toList [none,none] (KK n59) 0 (.tup [.agg [.own 0 0 n none,.own 1 0 ms.length none,.v (.bool rE)],.v (.int .i64 0)],[],[.data 22 (.int .u64) (Mi m),.nest kW ms none]) 4 (stOf 143 [2,5,15,99,100,101,121,122,123] [.ptr 0 0 0,.ptr 1 0 0,.ptr 2 0 0,slS S,.v (.int .i64 S.length),.v (.int .i64 s),slI C,.v (.int .i64 C.length),.v (.int .i64 k)] [.live (.box 151 [.v (.slice none 0 0),.v (.slice none 0 0),.v (.bool false)]),.live (.box 176 [slW W,slS S,.own 3 0 n (some n),.own 4 0 ms.length none]),.live (.box 151 [.own 3 0 n (some n),.own 4 0 ms.length none,.v (.bool ok)]),.live (.data 22 (.int .u64) (Mi m)),.live (.nest kW ms none)]):=by
 have hs1:IntKind.i64.wrap (s+1)=s+1:=wrG (by omega) (by omega)
 induction z with
 |zero=>
  intro k ok k0 hk hr
  rw[List.drop_eq_nil_of_le (by omega)] at hr
  have h1:=hx ok (by rw[hr];simp)
  refine gets_vc (flag [2000115] spNa) (fun k=> [[2,5,6,7,8,9,10,45,46],[2,5,6,7,8,9,10],[2,5,6,7,8,9,10,66,67,68],[2,5,15,99,100,101],[2,5,15,99,100,101,121,122,123]].getD k []) (fun k=>if k<3 then [⟨1000000008,3,.int .i64⟩] else if k=99 then [⟨1000000002,22,.int .u64⟩,⟨4010002,27,WT⟩] else []) 400 (.fork (.fork (.hd 4) (.hd 4)) (.hd 3)) (V:=vq36 W S n m ms C s k ok) hmG (fun G R=>by kernel_rfl) ?_
  unfold vq36
  try dsimp only
  simp only[hs1]
  simp (disch:=omega) only[oo,oop,ne_eq,Ty.dflt,reduceCtorEq]
  repeat' (first|with_reducible refine And.intro ?_ ?_|intro _)
  all_goals first|rfl|omega|assumption|trivial|(exfalso;simp_all;done)|(exfalso;omega)|skip
 |succ z ih=>
  intro k ok k0 hk hr
  have hk1:IntKind.i64.wrap (k+1)=k+1:=wrG (by omega) (by omega)
  rw[drop_at (xs:=C) (i:=k) (0:Int) k0 (by omega)] at hr
  simp only[List.all_cons] at hr
  have hcc:=hC _ (getD_in (d:=0) (k:=k.toNat) (l:=C) (by omega))
  have ih2:=fun ok'=>ih (k+1) ok' (by omega) (by omega)
  refine gets_vc (flag [2000115] spNa) (fun k=> [[2,5,6,7,8,9,10,45,46],[2,5,6,7,8,9,10],[2,5,6,7,8,9,10,66,67,68],[2,5,15,99,100,101],[2,5,15,99,100,101,121,122,123]].getD k []) (fun k=>if k<3 then [⟨1000000008,3,.int .i64⟩] else if k=99 then [⟨1000000002,22,.int .u64⟩,⟨4010002,27,WT⟩] else []) 400 (.fork (.fork (.hd 4) (.hd 4)) (.hd 3)) (V:=vq36 W S n m ms C s k ok) hmG (fun G R=>by kernel_rfl) ?_
  unfold vq36
  try dsimp only
  simp only[Ty.dflt,hk1,take_len,List.drop_zero,List.take_length,Mi_getD,Mi_len,Nt_Mi,Int.toNat_natCast,Mi_set,Nat.zero_add,Nat.sub_zero,set_same,cast_bne0,List.length_set]
  cases ok with
  |false=>
   have h1:=ih2 false (by rw[hr];rfl)
   simp (disch:=omega) only[oo,oop,ne_eq,Ty.dflt,reduceCtorEq]
   repeat' (first|with_reducible refine And.intro ?_ ?_|intro _)
   all_goals first|rfl|omega|assumption|trivial|(exfalso;simp_all;done)|(exfalso;omega)|skip
  |true=>
   have h1:=ih2 (m.getD (C.getD k.toNat 0).toNat 0 !=0) (by rw[hr,Bool.true_and];rfl)
   simp (disch:=omega) only[oo,oop,ne_eq,Ty.dflt,reduceCtorEq]
   repeat' (first|with_reducible refine And.intro ?_ ?_|intro _)
   all_goals first|rfl|omega|assumption|trivial|(exfalso;simp_all;done)|(exfalso;omega)|skip
def vq37 (W:List (List Int)) (S:List Slt) (n:Nat) (m:List Nat) (ms:List (List Int)) (s:Int) (ok:Bool) (G:Nat→St→Prop) (R:D×List (Option Row)×List Row→Prop):Prop:=let yy0:=(Ty.int .i64);let yy1:=(yy0.prod (Ty.bool.prod yy0.sl));let yy2:=(Row.box 176 [D.sl false false yy0.sl W,D.sl false false yy1 S,D.own 3 0 n (some n),D.own 4 0 ms.length none]);let yy3:=(NK.mk 27 yy0.sl 0 3 yy0);let yy4:=(Row.box 151 [D.v (Value.slice none 0 0),D.v (Value.slice none 0 0),D.v (Value.bool false)]);let yy5:=(Value.int .i64 (↑(List.length (S.getD s.toNat yy1.dflt).snd.snd):Int));(decide (s< (↑S.length:Int))=true→(0:Int)≤s∧s< (↑S.length:Int)∧(ok=true→(0:Int)≤s∧s< (↑ms.length:Int)∧0+s.toNat<ms.length∧SameK (KK n59 4) (KK n59 4)∧G 4 (stOf 143 [2,5,15,99,100,101,121,122,123] [D.ptr 0 0 0,D.ptr 1 0 0,D.ptr 2 0 0,D.sl false false yy1 S,D.v (Value.int .i64 (↑S.length:Int)),D.v (Value.int .i64 s),D.sl false false yy0 (S.getD s.toNat yy1.dflt).snd.snd,D.v yy5,D.v (Value.int .i64 (0:Int))] [Slot.live yy4,Slot.live yy2,Slot.live (Row.box 151 [D.own 3 0 n (some n),D.own 4 0 ms.length none,D.v (Value.bool (decide ((↑(List.length (ms.getD (0+s.toNat) yy3.t.dflt)):Int)>(0:Int))))]),Slot.live (Row.data 22 (Ty.int .u64) (Mi m)),Slot.live (Row.nest yy3 (ms.set (0+s.toNat) (List.take (List.length (ms.getD (0+s.toNat) yy3.t.dflt)) (ms.getD (0+s.toNat) yy3.t.dflt))) none)]))∧(ok=false→SameK (KK n59 4) (KK n59 4)∧G 4 (stOf 143 [2,5,15,99,100,101,121,122,123] [D.ptr 0 0 0,D.ptr 1 0 0,D.ptr 2 0 0,D.sl false false yy1 S,D.v (Value.int .i64 (↑S.length:Int)),D.v (Value.int .i64 s),D.sl false false yy0 (S.getD s.toNat yy1.dflt).snd.snd,D.v yy5,D.v (Value.int .i64 (0:Int))] [Slot.live yy4,Slot.live yy2,Slot.live (Row.box 151 [D.own 3 0 n (some n),D.own 4 0 ms.length none,D.v (Value.bool false)]),Slot.live (Row.data 22 (Ty.int .u64) (Mi m)),Slot.live (Row.nest yy3 ms none)])))∧(decide (s< (↑S.length:Int))=false→R (D.tup [D.agg [D.own 0 0 n none,D.own 1 0 ms.length none,D.v (Value.bool ok)],D.v (Value.int .i64 (0:Int))],[],[Row.data 22 (Ty.int .u64) (List.take n (List.drop 0 (Mi m))),Row.nest yy3 ms none]))
theorem e59c (W:List (List Int)) (S:List Slt) (n:Nat) (m:List Nat) (ms:List (List Int)) (hm:m.length=n) (hms:ms.length=S.length) (hS:S.length≤900) (hcell:∀j,j<S.length→(sAtN S j).2.2.length≤300∧∀c∈(sAtN S j).2.2,0≤c∧c<n) (rE:Bool) (z:Nat):∀(s:Int) (ok:Bool),0≤s→s+z=S.length→rE=(ok&&restO S m ms z s)→GetsK Tryd.prog Tryd.f123.results.toList [none,none] (KK n59) 0 (.tup [.agg [.own 0 0 n none,.own 1 0 ms.length none,.v (.bool rE)],.v (.int .i64 0)],[],[.data 22 (.int .u64) (Mi m),.nest kW ms none]) 3 (stOf 143 [2,5,15,99,100,101] [.ptr 0 0 0,.ptr 1 0 0,.ptr 2 0 0,slS S,.v (.int .i64 S.length),.v (.int .i64 s)] [.live (.box 151 [.v (.slice none 0 0),.v (.slice none 0 0),.v (.bool false)]),.live (.box 176 [slW W,slS S,.own 3 0 n (some n),.own 4 0 ms.length none]),.live (.box 151 [.own 3 0 n (some n),.own 4 0 ms.length none,.v (.bool ok)]),.live (.data 22 (.int .u64) (Mi m)),.live (.nest kW ms none)]):=by
 have ht:(Mi m).take n=Mi m:=by rw[←hm];exact Mi_take m
 induction z with
 |zero=>
  intro s ok s0 hs hr
  have hr:rE=ok:=by rw[hr];simp[restO]
  rw[hr]
  refine gets_vc (flag [2000115] spNa) (fun k=> [[2,5,6,7,8,9,10,45,46],[2,5,6,7,8,9,10],[2,5,6,7,8,9,10,66,67,68],[2,5,15,99,100,101],[2,5,15,99,100,101,121,122,123]].getD k []) (fun k=>if k<3 then [⟨1000000008,3,.int .i64⟩] else if k=99 then [⟨1000000002,22,.int .u64⟩,⟨4010002,27,WT⟩] else []) 400 (.fork (.fork (.hd 4) (.hd 4)) .stop) (V:=vq37 W S n m ms s ok) hmG (fun G R=>by kernel_rfl) ?_
  unfold vq37
  try dsimp only
  simp only[List.drop_zero,ht]
  simp (disch:=omega) only[oo,oop,ne_eq,Ty.dflt,reduceCtorEq]
  repeat' (first|with_reducible refine And.intro ?_ ?_|intro _)
  all_goals first|rfl|omega|assumption|trivial|(exfalso;simp_all;done)|(exfalso;omega)|skip
 |succ z ih=>
  intro s ok s0 hs hr
  obtain⟨C,hC⟩:∃C,(S.getD s.toNat (0,false,[])).2.2=C:=⟨_,rfl⟩
  have hc1:=hcell s.toNat (by omega)
  unfold sAtN at hc1
  rw[hC] at hc1
  simp only[restO,slotAt,hC] at hr
  have ih2:=fun ok'=>ih (s+1) ok' (by omega) (by omega)
  have hd:=fun ok' hr'=>e59d W S n m ms C s hm s0 (by omega) hc1.2 hc1.1 (restO S m ms z (s+1)) rE ih2 C.length 0 ok' (by omega) (by omega) hr'
  simp only[show(0:Int).toNat=0 by rfl,List.drop_zero] at hd
  refine gets_vc (flag [2000115] spNa) (fun k=> [[2,5,6,7,8,9,10,45,46],[2,5,6,7,8,9,10],[2,5,6,7,8,9,10,66,67,68],[2,5,15,99,100,101],[2,5,15,99,100,101,121,122,123]].getD k []) (fun k=>if k<3 then [⟨1000000008,3,.int .i64⟩] else if k=99 then [⟨1000000002,22,.int .u64⟩,⟨4010002,27,WT⟩] else []) 400 (.fork (.fork (.hd 4) (.hd 4)) .stop) (V:=vq37 W S n m ms s ok) hmG (fun G R=>by kernel_rfl) ?_
  unfold vq37
  try dsimp only
  simp only[Ty.dflt,hC,take_len,List.drop_zero,List.take_length,Mi_getD,Mi_len,Nt_Mi,Int.toNat_natCast,Mi_set,Nat.zero_add,Nat.sub_zero,set_same,cast_bne0,List.length_set]
  cases ok with
  |false=>
   have h1:=hd false (by rw[hr];simp)
   simp (disch:=omega) only[oo,oop,ne_eq,Ty.dflt,reduceCtorEq]
   repeat' (first|with_reducible refine And.intro ?_ ?_|intro _)
   all_goals first|rfl|omega|assumption|trivial|(exfalso;simp_all;done)|(exfalso;omega)|skip
  |true=>
   have h1:=hd (decide (((ms.getD s.toNat []).length:Int)>0)) (by rw[hr,Bool.true_and])
   simp (disch:=omega) only[oo,oop,ne_eq,Ty.dflt,reduceCtorEq]
   repeat' (first|with_reducible refine And.intro ?_ ?_|intro _)
   all_goals first|rfl|omega|assumption|trivial|(exfalso;simp_all;done)|(exfalso;omega)|skip
def vq38 (W:List (List Int)) (S:List Slt) (A:List (Int×Int)) (Z:List (Int×Int)) (n:Nat) (N:Nat) (m:List Nat) (ms:List (List Int)) (lo:List Int) (k:Int) (wt:List Bool) (td:List Int) (G:Nat→St→Prop) (R:D×List (Option Row)×List Row→Prop):Prop:=let yy0:=(putF wt td (A.getD (0+Int.toNat (lo.getD (0+k.toNat) (Ty.int .i64).dflt)) ((Ty.int .i64).prod (Ty.int .i64)).dflt).fst);let yy1:=(Ty.int .i64);let yy2:=(Z.getD (0+Int.toNat (lo.getD (0+k.toNat) yy1.dflt)) (yy1.prod yy1).dflt);let yy3:=(putF yy0.fst yy0.snd yy2.fst);let yy4:=(A.getD (0+Int.toNat (lo.getD (0+k.toNat) yy1.dflt)) (yy1.prod yy1).dflt);let yy5:=(Row.box 44 [D.own 10 0 N (some N)]);let yy6:=(Row.box 151 [D.v (Value.slice none 0 0),D.v (Value.slice none 0 0),D.v (Value.bool false)]);(decide (k< (↑lo.length:Int))=true→(0:Int)≤k∧k< (↑lo.length:Int)∧0+k.toNat<lo.length∧(0:Int)≤lo.getD (0+k.toNat) yy1.dflt∧lo.getD (0+k.toNat) yy1.dflt< (↑A.length:Int)∧0+Int.toNat (lo.getD (0+k.toNat) yy1.dflt)<A.length∧Con Tryd.prog 144 [Row.box 44 [D.own 1 0 N (some N)],Row.data 4 Ty.bool wt,Row.box 27 [D.own 3 0 td.length none],Row.data 3 yy1 td] [D.v (Value.int .i64 yy4.fst),D.ptr 0 0 0,D.ptr 2 0 0] (D.tup []) [some (Row.box 44 [D.own 1 0 N (some N)]),some (Row.data 4 Ty.bool yy0.fst),some (Row.box 27 [D.own 4 0 yy0.snd.length none]),none] [Row.data 3 yy1 yy0.snd]∧Value.int .i64 yy4.fst=Value.int .i64 yy4.fst∧5=5∧0=0∧0=0∧4=4∧0=0∧0=0∧yy0.fst.length=wt.length∧some yy5=some yy5∧some (Row.data 4 Ty.bool wt)=some (Row.data 4 Ty.bool wt)∧some (Row.box 27 [D.own 9 0 td.length none])=some (Row.box 27 [D.own 9 0 td.length none])∧some (Row.data 3 yy1 td)=some (Row.data 3 yy1 td)∧(0:Int)≤lo.getD (0+k.toNat) yy1.dflt∧lo.getD (0+k.toNat) yy1.dflt< (↑Z.length:Int)∧0+Int.toNat (lo.getD (0+k.toNat) yy1.dflt)<Z.length∧Con Tryd.prog 144 [Row.box 44 [D.own 1 0 N (some N)],Row.data 4 Ty.bool yy0.fst,Row.box 27 [D.own 3 0 yy0.snd.length none],Row.data 3 yy1 yy0.snd] [D.v (Value.int .i64 yy2.fst),D.ptr 0 0 0,D.ptr 2 0 0] (D.tup []) [some (Row.box 44 [D.own 1 0 N (some N)]),some (Row.data 4 Ty.bool yy3.fst),some (Row.box 27 [D.own 4 0 yy3.snd.length none]),none] [Row.data 3 yy1 yy3.snd]∧Value.int .i64 yy2.fst=Value.int .i64 yy2.fst∧5=5∧0=0∧0=0∧4=4∧0=0∧0=0∧yy3.fst.length=yy0.fst.length∧some yy5=some yy5∧some (Row.data 4 Ty.bool yy0.fst)=some (Row.data 4 Ty.bool yy0.fst)∧some (Row.box 27 [D.own 11 0 yy0.snd.length none])=some (Row.box 27 [D.own 11 0 yy0.snd.length none])∧some (Row.data 3 yy1 yy0.snd)=some (Row.data 3 yy1 yy0.snd)∧SameK (KK n59 2) (KK n59 2)∧G 2 (stOf 143 [2,5,6,7,8,9,10,66,67,68] [D.ptr 0 0 0,D.ptr 1 0 0,D.own 2 0 A.length none,D.own 3 0 Z.length none,D.ptr 4 0 0,D.ptr 5 0 0,D.fn 144 [D.ptr 5 0 0,D.ptr 4 0 0],D.own 6 0 lo.length none,D.v (Value.int .i64 (↑lo.length:Int)),D.v (Value.int .i64 (IntKind.i64.wrap (k+(1:Int))))] [Slot.live yy6,Slot.live (Row.box 176 [D.sl false false yy1.sl W,D.sl false false (yy1.prod (Ty.bool.prod yy1.sl)) S,D.own 7 0 n (some n),D.own 8 0 ms.length none]),Slot.live (Row.data 61 (yy1.prod yy1) A),Slot.live (Row.data 61 (yy1.prod yy1) Z),Slot.live (Row.box 27 [D.own 9 0 yy3.snd.length none]),Slot.live yy5,Slot.live (Row.data 3 yy1 lo),Slot.live (Row.data 22 (Ty.int .u64) (Mi m)),Slot.live (Row.nest (NK.mk 27 yy1.sl 0 3 yy1) ms none),Slot.live (Row.data 3 yy1 (List.take yy3.snd.length (List.drop 0 yy3.snd))),Slot.live (Row.data 4 Ty.bool yy3.fst)]))∧(decide (k< (↑lo.length:Int))=false→SameK (KK n59 1) (KK n59 1)∧G 1 (stOf 143 [2,5,6,7,8,9,10] [D.ptr 0 0 0,D.ptr 1 0 0,D.own 2 0 A.length none,D.own 3 0 Z.length none,D.ptr 4 0 0,D.ptr 5 0 0,D.fn 144 [D.ptr 5 0 0,D.ptr 4 0 0]] [Slot.live yy6,Slot.live (Row.box 176 [D.sl false false yy1.sl W,D.sl false false (yy1.prod (Ty.bool.prod yy1.sl)) S,D.own 6 0 n (some n),D.own 7 0 ms.length none]),Slot.live (Row.data 61 (yy1.prod yy1) A),Slot.live (Row.data 61 (yy1.prod yy1) Z),Slot.live (Row.box 27 [D.own 8 0 td.length none]),Slot.live (Row.box 44 [D.own 9 0 N (some N)]),Slot.live (Row.data 22 (Ty.int .u64) (Mi m)),Slot.live (Row.nest (NK.mk 27 yy1.sl 0 3 yy1) ms none),Slot.live (Row.data 3 yy1 (List.take td.length (List.drop 0 td))),Slot.live (Row.data 4 Ty.bool wt)]))
theorem e59b (W:List (List Int)) (S:List Slt) (A Z:List (Int×Int)) (n N:Nat) (m:List Nat) (ms:List (List Int)) (lo:List Int) (hN:N≤900) (hlo:lo.length≤300) (hA:A.length=n) (hZ:Z.length=n) (hl:∀c∈lo,0≤c∧c<n) (iA:∀c:Nat,(A.getD c (-1,0)).1<N) (iZ:∀c:Nat,(Z.getD c (-1,0)).1<N) (tE:List Int) (wE:List Bool) (mE:List Nat) (sE:List (List Int)) (rE:Bool) (hx:GetsK Tryd.prog Tryd.f123.results.toList [none,none] (KK n59) 0 (.tup [.agg [.own 0 0 n none,.own 1 0 sE.length none,.v (.bool rE)],.v (.int .i64 0)],[],[.data 22 (.int .u64) (Mi mE),.nest kW sE none]) 1 (stOf 143 [2,5,6,7,8,9,10] [.ptr 0 0 0,.ptr 1 0 0,.own 2 0 A.length none,.own 3 0 Z.length none,.ptr 4 0 0,.ptr 5 0 0,.fn 144 [.ptr 5 0 0,.ptr 4 0 0]] [.live (.box 151 [.v (.slice none 0 0),.v (.slice none 0 0),.v (.bool false)]),.live (.box 176 [slW W,slS S,.own 6 0 n (some n),.own 7 0 ms.length none]),.live (.data 61 SeT A),.live (.data 61 SeT Z),.live (.box 27 [.own 8 0 tE.length none]),.live (.box 44 [.own 9 0 N (some N)]),.live (.data 22 (.int .u64) (Mi m)),.live (.nest kW ms none),.live (.data 3 (.int .i64) tE),.live (.data 4 .bool wE)])) (z:Nat):∀(k:Int) (wt:List Bool) (td:List Int),0≤k→k+z=lo.length→Queue wt td N→putsF A Z (lo.drop k.toNat) (wt,td)=(wE,tE)→GetsK Tryd.prog Tryd.f123.results.toList [none,none] (KK n59) 0 (.tup [.agg [.own 0 0 n none,.own 1 0 sE.length none,.v (.bool rE)],.v (.int .i64 0)],[],[.data 22 (.int .u64) (Mi mE),.nest kW sE none]) 2 (stOf 143 [2,5,6,7,8,9,10,66,67,68] [.ptr 0 0 0,.ptr 1 0 0,.own 2 0 A.length none,.own 3 0 Z.length none,.ptr 4 0 0,.ptr 5 0 0,.fn 144 [.ptr 5 0 0,.ptr 4 0 0],.own 6 0 lo.length none,.v (.int .i64 lo.length),.v (.int .i64 k)] [.live (.box 151 [.v (.slice none 0 0),.v (.slice none 0 0),.v (.bool false)]),.live (.box 176 [slW W,slS S,.own 7 0 n (some n),.own 8 0 ms.length none]),.live (.data 61 SeT A),.live (.data 61 SeT Z),.live (.box 27 [.own 9 0 td.length none]),.live (.box 44 [.own 10 0 N (some N)]),.live (.data 3 (.int .i64) lo),.live (.data 22 (.int .u64) (Mi m)),.live (.nest kW ms none),.live (.data 3 (.int .i64) td),.live (.data 4 .bool wt)]):=by
 induction z with
 |zero=>
  intro k wt td k0 hk q he
  rw[List.drop_eq_nil_of_le (by omega)] at he
  have he:(wt,td)=(wE,tE):=he
  rw[Prod.mk.injEq] at he
  obtain⟨rfl,rfl⟩:=he
  refine gets_vc (flag [2000115] spNa) (fun k=> [[2,5,6,7,8,9,10,45,46],[2,5,6,7,8,9,10],[2,5,6,7,8,9,10,66,67,68],[2,5,15,99,100,101],[2,5,15,99,100,101,121,122,123]].getD k []) (fun k=>if k<3 then [⟨1000000008,3,.int .i64⟩] else if k=99 then [⟨1000000002,22,.int .u64⟩,⟨4010002,27,WT⟩] else []) 400 (.fork (.hd 2) (.hd 1)) (V:=vq38 W S A Z n N m ms lo k wt td) hmG (fun G R=>by kernel_rfl) ?_
  unfold vq38
  try dsimp only
  simp only[List.drop_zero,List.take_length]
  simp (disch:=omega) only[oo,oop,ne_eq,Ty.dflt,reduceCtorEq]
  repeat' (first|with_reducible refine And.intro ?_ ?_|intro _)
  all_goals first|rfl|omega|assumption|trivial|(exfalso;simp_all;done)|(exfalso;omega)|skip
 |succ z ih=>
  intro k wt td k0 hk q he
  have hk1:IntKind.i64.wrap (k+1)=k+1:=wrG (by omega) (by omega)
  rw[drop_at (xs:=lo) (i:=k) (0:Int) k0 (by omega)] at he
  simp only[putsF] at he
  have hc:=hl _ (getD_in (d:=0) (k:=k.toNat) (l:=lo) (by omega))
  obtain⟨c,hcc⟩:∃c,lo.getD k.toNat 0=c:=⟨_,rfl⟩
  rw[hcc] at he hc
  have a0:(A.getD c.toNat (0,0))=A.getD c.toNat (-1,0):=by
   rw[List.getD_eq_getElem?_getD,List.getD_eq_getElem?_getD,List.getElem?_eq_getElem (by omega)]
   rfl
  have z0:(Z.getD c.toNat (0,0))=Z.getD c.toNat (-1,0):=by
   rw[List.getD_eq_getElem?_getD,List.getD_eq_getElem?_getD,List.getElem?_eq_getElem (by omega)]
   rfl
  obtain⟨q1,_,_⟩:=put_queue q (iA c.toNat)
  obtain⟨q2,_,_⟩:=put_queue q1 (iZ c.toNat)
  have l0:=q.long
  have l1:=q1.long
  have c1:=d98 (A.getD c.toNat (-1,0)).1 N td.length wt td q.len rfl (iA _) (by omega)
  have c2:=d98 (Z.getD c.toNat (-1,0)).1 N (putF wt td (A.getD c.toNat (-1,0)).1).2.length (putF wt td (A.getD c.toNat (-1,0)).1).1 (putF wt td (A.getD c.toNat (-1,0)).1).2 q1.len rfl (iZ _) (by omega)
  have h1:=ih (k+1) _ _ (by omega) (by omega) q2 he
  have n1:(putF wt td (A.getD c.toNat (-1,0)).1).1.length=wt.length:=by rw[q1.len,q.len]
  have n2:(putF (putF wt td (A.getD c.toNat (-1,0)).1).1 (putF wt td (A.getD c.toNat (-1,0)).1).2 (Z.getD c.toNat (-1,0)).1).1.length=(putF wt td (A.getD c.toNat (-1,0)).1).1.length:=by rw[q2.len,q1.len]
  refine gets_vc (flag [2000115] spNa) (fun k=> [[2,5,6,7,8,9,10,45,46],[2,5,6,7,8,9,10],[2,5,6,7,8,9,10,66,67,68],[2,5,15,99,100,101],[2,5,15,99,100,101,121,122,123]].getD k []) (fun k=>if k<3 then [⟨1000000008,3,.int .i64⟩] else if k=99 then [⟨1000000002,22,.int .u64⟩,⟨4010002,27,WT⟩] else []) 400 (.fork (.hd 2) (.hd 1)) (V:=vq38 W S A Z n N m ms lo k wt td) hmG (fun G R=>by kernel_rfl) ?_
  unfold vq38
  try dsimp only
  simp only[Ty.dflt,hk1,Nat.zero_add,hcc,a0,z0,List.drop_zero,List.take_length]
  simp (disch:=omega) only[oo,oop,ne_eq,Ty.dflt,reduceCtorEq]
  repeat' (first|with_reducible refine And.intro ?_ ?_|intro _)
  all_goals first|rfl|omega|assumption|trivial|(exfalso;simp_all;done)|(exfalso;omega)|skip
theorem e59a (W:List (List Int)) (S:List Slt) (A Z:List (Int×Int)) (n:Nat) (m0:List Nat) (hn:m0.length=n) (F:Fine W S m0) (hS:S.length≤900) (B:Board W S m0.length A Z) (hA:A.length=n) (hZ:Z.length=n) (N:Nat) (hN:N=S.length) (mE:List Nat) (sE:List (List Int)) (rE:Bool) (h1:mE=gfpF W S m0) (h2:sE=wordsF W S mE) (h3:rE=okF S mE sE) (q:Nat):∀(m:List Nat) (ms:List (List Int)) (wt:List Bool) (td:List Int),m.sum*(S.length+1)+td.length<q→Inv W S m0 m ms wt td→GetsK Tryd.prog Tryd.f123.results.toList [none,none] (KK n59) 0 (.tup [.agg [.own 0 0 n none,.own 1 0 sE.length none,.v (.bool rE)],.v (.int .i64 0)],[],[.data 22 (.int .u64) (Mi mE),.nest kW sE none]) 1 (stOf 143 [2,5,6,7,8,9,10] [.ptr 0 0 0,.ptr 1 0 0,.own 2 0 A.length none,.own 3 0 Z.length none,.ptr 4 0 0,.ptr 5 0 0,.fn 144 [.ptr 5 0 0,.ptr 4 0 0]] [.live (.box 151 [.v (.slice none 0 0),.v (.slice none 0 0),.v (.bool false)]),.live (.box 176 [slW W,slS S,.own 6 0 n (some n),.own 7 0 ms.length none]),.live (.data 61 SeT A),.live (.data 61 SeT Z),.live (.box 27 [.own 8 0 td.length none]),.live (.box 44 [.own 9 0 N (some N)]),.live (.data 22 (.int .u64) (Mi m)),.live (.nest kW ms none),.live (.data 3 (.int .i64) td),.live (.data 4 .bool wt)]):=by
 induction q with
 |zero=>intro m ms wt td h;omega
 |succ q ih=>
  intro m ms wt td hq I
  have hm:m.length=n:=by rw[I.len,hn]
  cases td with
  |nil=>
   obtain⟨e1,e2⟩:=I.done
   rw[←h1] at e1
   rw[e1,←h2] at e2
   subst e1;subst e2
   have hx:=e59c W S n m ms hm I.may hS (fun j hj=>by
    have:=F.cells _ (getD_in (d:=(0,false,[])) hj)
    rw[hn] at this
    exact this) rE S.length 0 true (by omega) (by omega) (by rw[restO_ok I.may,h3];rfl)
   refine gets_vc (flag [2000115] spNa) (fun k=> [[2,5,6,7,8,9,10,45,46],[2,5,6,7,8,9,10],[2,5,6,7,8,9,10,66,67,68],[2,5,15,99,100,101],[2,5,15,99,100,101,121,122,123]].getD k []) (fun k=>if k<3 then [⟨1000000008,3,.int .i64⟩] else if k=99 then [⟨1000000002,22,.int .u64⟩,⟨4010002,27,WT⟩] else []) 400 (.fork (.hd 2) (.hd 3)) (V:=fun G R=>let yy0:=(Ty.int .i64);let yy1:=(yy0.prod (Ty.bool.prod yy0.sl));let yy2:=(NK.mk 27 yy0.sl 0 3 yy0);let yy3:=(Row.box 176 [D.sl false false yy0.sl W,D.sl false false yy1 S,D.own 6 0 n (some n),D.own 7 0 ms.length none]);let yy4:=(Row.box 151 [D.v (Value.slice none 0 0),D.v (Value.slice none 0 0),D.v (Value.bool false)]);let yy5:=(Ty.int .u64);(decide ((↑0:Int)>(0:Int))=true→(0:Int)≤(0:Int)∧(0:Int)< (↑0:Int)∧0<0∧(0:Int)≤(1:Int)∧(1:Int)≤(↑0:Int)∧(↑0:Int)≤(↑0:Int)∧(0:Int)≤ [].getD 0 yy0.dflt∧[].getD 0 yy0.dflt< (↑N:Int)∧0<wt.length∧Con Tryd.prog 145 [Row.box 176 [D.sl false false yy0.sl W,D.sl false false yy1 S,D.own 1 0 n (some n),D.own 2 0 ms.length none],Row.data 22 yy5 (Mi (Nt (Mi m))),Row.nest yy2 ms none] [D.ptr 0 0 0,D.v (Value.int .i64 ([].getD 0 yy0.dflt))] (D.own 3 0 (lostC W (Nt (Mi m)) (slotAt S ([].getD 0 yy0.dflt)).snd.snd (ms.getD 0 [])).length none) [some (Row.box 176 [D.sl false false yy0.sl W,D.sl false false yy1 S,D.own 1 0 n (some n),D.own 2 0 ms.length none]),some (Row.data 22 yy5 (Mi (lookC W (Nt (Mi m)) (slotAt S ([].getD 0 yy0.dflt)).snd.snd (ms.getD 0 [])))),some (Row.nest yy2 (ms.set 0 (keepI W (Nt (Mi m)) (slotAt S ([].getD 0 yy0.dflt)).snd.snd (ms.getD 0 []))) none)] [Row.data 3 yy0 (lostC W (Nt (Mi m)) (slotAt S ([].getD 0 yy0.dflt)).snd.snd (ms.getD 0 []))]∧1=1∧0=0∧0=0∧Value.int .i64 ([].getD 0 yy0.dflt)=Value.int .i64 ([].getD 0 yy0.dflt)∧(Mi (lookC W (Nt (Mi m)) (slotAt S ([].getD 0 yy0.dflt)).snd.snd (ms.getD 0 []))).length=(Mi (Nt (Mi m))).length∧(ms.set 0 (keepI W (Nt (Mi m)) (slotAt S ([].getD 0 yy0.dflt)).snd.snd (ms.getD 0 []))).length=ms.length∧some yy3=some yy3∧some (Row.data 22 yy5 (Mi m))=some (Row.data 22 yy5 (Mi (Nt (Mi m))))∧some (Row.nest yy2 ms none)=some (Row.nest yy2 ms none)∧SameK (KK n59 2) (KK n59 2)∧G 2 (stOf 143 [2,5,6,7,8,9,10,66,67,68] [D.ptr 0 0 0,D.ptr 1 0 0,D.own 2 0 A.length none,D.own 3 0 Z.length none,D.ptr 4 0 0,D.ptr 5 0 0,D.fn 144 [D.ptr 5 0 0,D.ptr 4 0 0],D.own 6 0 (lostC W (Nt (Mi m)) (slotAt S ([].getD 0 yy0.dflt)).snd.snd (ms.getD 0 [])).length none,D.v (Value.int .i64 (↑(lostC W (Nt (Mi m)) (slotAt S ([].getD 0 yy0.dflt)).snd.snd (ms.getD 0 [])).length:Int)),D.v (Value.int .i64 (0:Int))] [Slot.live yy4,Slot.live (Row.box 176 [D.sl false false yy0.sl W,D.sl false false yy1 S,D.own 7 0 n (some n),D.own 8 0 ms.length none]),Slot.live (Row.data 61 (yy0.prod yy0) A),Slot.live (Row.data 61 (yy0.prod yy0) Z),Slot.live (Row.box 27 [D.own 9 0 0 none]),Slot.live (Row.box 44 [D.own 10 0 N (some N)]),Slot.live (Row.data 3 yy0 (lostC W (Nt (Mi m)) (slotAt S ([].getD 0 yy0.dflt)).snd.snd (ms.getD 0 []))),Slot.live (Row.data 22 yy5 (Mi (lookC W (Nt (Mi m)) (slotAt S ([].getD 0 yy0.dflt)).snd.snd (ms.getD 0 [])))),Slot.live (Row.nest yy2 (ms.set 0 (keepI W (Nt (Mi m)) (slotAt S ([].getD 0 yy0.dflt)).snd.snd (ms.getD 0 []))) none),Slot.live (Row.data 3 yy0 (List.take 0 (List.drop 1 []))),Slot.live (Row.data 4 Ty.bool (wt.set 0 false))]))∧(decide ((↑0:Int)>(0:Int))=false→SameK (KK n59 3) (KK n59 3)∧G 3 (stOf 143 [2,5,15,99,100,101] [D.ptr 0 0 0,D.ptr 1 0 0,D.ptr 2 0 0,D.sl false false yy1 S,D.v (Value.int .i64 (↑S.length:Int)),D.v (Value.int .i64 (0:Int))] [Slot.live yy4,Slot.live (Row.box 176 [D.sl false false yy0.sl W,D.sl false false yy1 S,D.own 3 0 n (some n),D.own 4 0 ms.length none]),Slot.live (Row.box 151 [D.own 3 0 n (some n),D.own 4 0 ms.length none,D.v (Value.bool true)]),Slot.live (Row.data 22 yy5 (Mi m)),Slot.live (Row.nest yy2 ms none)]))) hmG (fun G R=>by kernel_rfl) ?_
   try dsimp only
   simp (disch:=omega) only[oo,oop,ne_eq,Ty.dflt,reduceCtorEq]
   repeat' (first|with_reducible refine And.intro ?_ ?_|intro _)
   all_goals first|rfl|omega|assumption|trivial|(exfalso;simp_all;done)|(exfalso;omega)|skip
  |cons s td=>
   obtain⟨s0,s1,L⟩:=Inv.look B F I
   have c1:=d99 W S m ms s s0 s1 I.may L
   rw[hm] at c1
   have qs:=I.q
   have hwl:=qs.len
   obtain⟨C,hC⟩:∃C,(slotAt S s).2.2=C:=⟨_,rfl⟩
   obtain⟨l,hl⟩:∃l,ms.getD s.toNat []=l:=⟨_,rfl⟩
   obtain⟨I2,M2⟩:=Inv.step B I hC hl
   have hc:=F.cells (slotAt S s) (by unfold slotAt;exact getD_in (by omega))
   rw[hC] at hc
   rw[hC,hl] at c1
   have hlost:∀c∈lostC W m C l,0≤c∧c<n:=fun c h=>by
    rw[←hn]
    exact hc.2 c (lost_sub _ _ _ _ c h)
   have hll:(lostC W m C l).length≤300:=Nat.le_trans (lost_len _ _ _ _) hc.1
   have hlm:(lookC W m C l).length=m.length:=by rw[I2.len,I.len]
   have hx:=ih _ _ _ _ (by simp only[List.length_cons] at hq;omega) I2
   rw[List.length_set] at hx
   have hb:=e59b W S A Z n N (lookC W m C l) (ms.set s.toNat (keepI W m C l)) (lostC W m C l) (by omega) hll hA hZ hlost (by rw[hN];exact B.inA) (by rw[hN];exact B.inD) _ _ mE sE rE (by rw[List.length_set];exact hx) (lostC W m C l).length 0 (wt.set s.toNat false) td (by omega) (by omega) (by rw[hN];exact pop_queue qs) rfl
   rw[List.length_set] at hb
   refine gets_vc (flag [2000115] spNa) (fun k=> [[2,5,6,7,8,9,10,45,46],[2,5,6,7,8,9,10],[2,5,6,7,8,9,10,66,67,68],[2,5,15,99,100,101],[2,5,15,99,100,101,121,122,123]].getD k []) (fun k=>if k<3 then [⟨1000000008,3,.int .i64⟩] else if k=99 then [⟨1000000002,22,.int .u64⟩,⟨4010002,27,WT⟩] else []) 400 (.fork (.hd 2) (.hd 3)) (V:=fun G R=>let yy0:=(Ty.int .i64);let yy1:=((s::td).getD 0 yy0.dflt);let yy2:=(yy0.prod (Ty.bool.prod yy0.sl));let yy3:=(Int.toNat yy1);let yy4:=(↑(s::td).length:Int);let yy5:=(NK.mk 27 yy0.sl 0 3 yy0);let yy6:=(slotAt S yy1);let yy7:=(Row.box 176 [D.sl false false yy0.sl W,D.sl false false yy2 S,D.own 6 0 n (some n),D.own 7 0 ms.length none]);let yy8:=(Row.box 151 [D.v (Value.slice none 0 0),D.v (Value.slice none 0 0),D.v (Value.bool false)]);let yy9:=(Ty.int .u64);(decide (yy4>(0:Int))=true→(0:Int)≤(0:Int)∧(0:Int)<yy4∧0< (s::td).length∧(0:Int)≤(1:Int)∧(1:Int)≤yy4∧yy4≤(↑((s::td).length-0):Int)∧(0:Int)≤(s::td).getD 0 yy0.dflt∧(s::td).getD 0 yy0.dflt< (↑N:Int)∧0+Int.toNat yy1<wt.length∧Con Tryd.prog 145 [Row.box 176 [D.sl false false yy0.sl W,D.sl false false yy2 S,D.own 1 0 n (some n),D.own 2 0 ms.length none],Row.data 22 yy9 (Mi (Nt (Mi m))),Row.nest yy5 ms none] [D.ptr 0 0 0,D.v (Value.int .i64 yy1)] (D.own 3 0 (lostC W (Nt (Mi m)) yy6.snd.snd (ms.getD yy3 [])).length none) [some (Row.box 176 [D.sl false false yy0.sl W,D.sl false false yy2 S,D.own 1 0 n (some n),D.own 2 0 ms.length none]),some (Row.data 22 yy9 (Mi (lookC W (Nt (Mi m)) yy6.snd.snd (ms.getD yy3 [])))),some (Row.nest yy5 (ms.set yy3 (keepI W (Nt (Mi m)) yy6.snd.snd (ms.getD yy3 []))) none)] [Row.data 3 yy0 (lostC W (Nt (Mi m)) yy6.snd.snd (ms.getD yy3 []))]∧1=1∧0=0∧0=0∧Value.int .i64 yy1=Value.int .i64 yy1∧(Mi (lookC W (Nt (Mi m)) yy6.snd.snd (ms.getD yy3 []))).length=(Mi (Nt (Mi m))).length∧(ms.set yy3 (keepI W (Nt (Mi m)) yy6.snd.snd (ms.getD yy3 []))).length=ms.length∧some yy7=some yy7∧some (Row.data 22 yy9 (Mi m))=some (Row.data 22 yy9 (Mi (Nt (Mi m))))∧some (Row.nest yy5 ms none)=some (Row.nest yy5 ms none)∧SameK (KK n59 2) (KK n59 2)∧G 2 (stOf 143 [2,5,6,7,8,9,10,66,67,68] [D.ptr 0 0 0,D.ptr 1 0 0,D.own 2 0 A.length none,D.own 3 0 Z.length none,D.ptr 4 0 0,D.ptr 5 0 0,D.fn 144 [D.ptr 5 0 0,D.ptr 4 0 0],D.own 6 0 (lostC W (Nt (Mi m)) yy6.snd.snd (ms.getD yy3 [])).length none,D.v (Value.int .i64 (↑(lostC W (Nt (Mi m)) yy6.snd.snd (ms.getD yy3 [])).length:Int)),D.v (Value.int .i64 (0:Int))] [Slot.live yy8,Slot.live (Row.box 176 [D.sl false false yy0.sl W,D.sl false false yy2 S,D.own 7 0 n (some n),D.own 8 0 ms.length none]),Slot.live (Row.data 61 (yy0.prod yy0) A),Slot.live (Row.data 61 (yy0.prod yy0) Z),Slot.live (Row.box 27 [D.own 9 0 (yy4.toNat-1) none]),Slot.live (Row.box 44 [D.own 10 0 N (some N)]),Slot.live (Row.data 3 yy0 (lostC W (Nt (Mi m)) yy6.snd.snd (ms.getD yy3 []))),Slot.live (Row.data 22 yy9 (Mi (lookC W (Nt (Mi m)) yy6.snd.snd (ms.getD yy3 [])))),Slot.live (Row.nest yy5 (ms.set yy3 (keepI W (Nt (Mi m)) yy6.snd.snd (ms.getD yy3 []))) none),Slot.live (Row.data 3 yy0 (List.take (yy4.toNat-1) (List.drop 1 (s::td)))),Slot.live (Row.data 4 Ty.bool (wt.set (0+Int.toNat yy1) false))]))∧(decide (yy4>(0:Int))=false→SameK (KK n59 3) (KK n59 3)∧G 3 (stOf 143 [2,5,15,99,100,101] [D.ptr 0 0 0,D.ptr 1 0 0,D.ptr 2 0 0,D.sl false false yy2 S,D.v (Value.int .i64 (↑S.length:Int)),D.v (Value.int .i64 (0:Int))] [Slot.live yy8,Slot.live (Row.box 176 [D.sl false false yy0.sl W,D.sl false false yy2 S,D.own 3 0 n (some n),D.own 4 0 ms.length none]),Slot.live (Row.box 151 [D.own 3 0 n (some n),D.own 4 0 ms.length none,D.v (Value.bool true)]),Slot.live (Row.data 22 yy9 (Mi m)),Slot.live (Row.nest yy5 ms none)]))) hmG (fun G R=>by kernel_rfl) ?_
   try dsimp only
   simp only[Ty.dflt,Nat.zero_add,Nat.sub_zero,Nt_Mi,Mi_len,hlm,hC,hl,List.getD_cons_zero,List.length_cons,Int.toNat_natCast,Nat.add_sub_cancel,List.drop_succ_cons,List.drop_zero,List.take_length,List.length_set]
   simp (disch:=omega) only[oo,oop,ne_eq,Ty.dflt,reduceCtorEq]
   repeat' (first|with_reducible refine And.intro ?_ ?_|intro _)
   all_goals first|rfl|omega|assumption|trivial|(exfalso;simp_all;done)|(exfalso;omega)|skip
def vq39 (W:List (List Int)) (S:List Slt) (A:List (Int×Int)) (Z:List (Int×Int)) (n:Nat) (N:Nat) (m:List Nat) (ms:List (List Int)) (s:Int) (wt:List Bool) (td:List Int) (G:Nat→St→Prop) (R:D×List (Option Row)×List Row→Prop):Prop:=let yy0:=(Ty.int .i64);let yy1:=(Row.box 176 [D.sl false false yy0.sl W,D.sl false false (yy0.prod (Ty.bool.prod yy0.sl)) S,D.own 6 0 n (some n),D.own 7 0 ms.length none]);let yy2:=(Row.box 44 [D.own 9 0 N (some N)]);let yy3:=(Row.box 151 [D.v (Value.slice none 0 0),D.v (Value.slice none 0 0),D.v (Value.bool false)]);let yy4:=(putF wt td s);let yy5:=(Row.box 27 [D.own 8 0 td.length none]);(decide (s< (↑S.length:Int))=true→Con Tryd.prog 144 [Row.box 44 [D.own 1 0 N (some N)],Row.data 4 Ty.bool wt,Row.box 27 [D.own 3 0 td.length none],Row.data 3 yy0 td] [D.v (Value.int .i64 s),D.ptr 0 0 0,D.ptr 2 0 0] (D.tup []) [some (Row.box 44 [D.own 1 0 N (some N)]),some (Row.data 4 Ty.bool yy4.fst),some (Row.box 27 [D.own 4 0 yy4.snd.length none]),none] [Row.data 3 yy0 yy4.snd]∧Value.int .i64 s=Value.int .i64 s∧5=5∧0=0∧0=0∧4=4∧0=0∧0=0∧yy4.fst.length=wt.length∧some yy2=some yy2∧some (Row.data 4 Ty.bool wt)=some (Row.data 4 Ty.bool wt)∧some yy5=some yy5∧some (Row.data 3 yy0 td)=some (Row.data 3 yy0 td)∧SameK (KK n59 0) (KK n59 0)∧G 0 (stOf 143 [2,5,6,7,8,9,10,45,46] [D.ptr 0 0 0,D.ptr 1 0 0,D.own 2 0 A.length none,D.own 3 0 Z.length none,D.ptr 4 0 0,D.ptr 5 0 0,D.fn 144 [D.ptr 5 0 0,D.ptr 4 0 0],D.v (Value.int .i64 (↑S.length:Int)),D.v (Value.int .i64 (IntKind.i64.wrap (s+(1:Int))))] [Slot.live yy3,Slot.live yy1,Slot.live (Row.data 61 (yy0.prod yy0) A),Slot.live (Row.data 61 (yy0.prod yy0) Z),Slot.live (Row.box 27 [D.own 8 0 yy4.snd.length none]),Slot.live yy2,Slot.live (Row.data 22 (Ty.int .u64) (Mi m)),Slot.live (Row.nest (NK.mk 27 yy0.sl 0 3 yy0) ms none),Slot.live (Row.data 3 yy0 (List.take yy4.snd.length (List.drop 0 yy4.snd))),Slot.live (Row.data 4 Ty.bool yy4.fst)]))∧(decide (s< (↑S.length:Int))=false→SameK (KK n59 1) (KK n59 1)∧G 1 (stOf 143 [2,5,6,7,8,9,10] [D.ptr 0 0 0,D.ptr 1 0 0,D.own 2 0 A.length none,D.own 3 0 Z.length none,D.ptr 4 0 0,D.ptr 5 0 0,D.fn 144 [D.ptr 5 0 0,D.ptr 4 0 0]] [Slot.live yy3,Slot.live yy1,Slot.live (Row.data 61 (yy0.prod yy0) A),Slot.live (Row.data 61 (yy0.prod yy0) Z),Slot.live yy5,Slot.live yy2,Slot.live (Row.data 22 (Ty.int .u64) (Mi m)),Slot.live (Row.nest (NK.mk 27 yy0.sl 0 3 yy0) ms none),Slot.live (Row.data 3 yy0 (List.take td.length (List.drop 0 td))),Slot.live (Row.data 4 Ty.bool wt)]))
theorem e59p (W:List (List Int)) (S:List Slt) (A Z:List (Int×Int)) (n N:Nat) (m:List Nat) (ms:List (List Int)) (hS:S.length≤900) (hN:N=S.length) (mE:List Nat) (sE:List (List Int)) (rE:Bool) (hx:∀wt td,Queue wt td N→(∀j,j<N→wt.getD j false=true)→GetsK Tryd.prog Tryd.f123.results.toList [none,none] (KK n59) 0 (.tup [.agg [.own 0 0 n none,.own 1 0 sE.length none,.v (.bool rE)],.v (.int .i64 0)],[],[.data 22 (.int .u64) (Mi mE),.nest kW sE none]) 1 (stOf 143 [2,5,6,7,8,9,10] [.ptr 0 0 0,.ptr 1 0 0,.own 2 0 A.length none,.own 3 0 Z.length none,.ptr 4 0 0,.ptr 5 0 0,.fn 144 [.ptr 5 0 0,.ptr 4 0 0]] [.live (.box 151 [.v (.slice none 0 0),.v (.slice none 0 0),.v (.bool false)]),.live (.box 176 [slW W,slS S,.own 6 0 n (some n),.own 7 0 ms.length none]),.live (.data 61 SeT A),.live (.data 61 SeT Z),.live (.box 27 [.own 8 0 td.length none]),.live (.box 44 [.own 9 0 N (some N)]),.live (.data 22 (.int .u64) (Mi m)),.live (.nest kW ms none),.live (.data 3 (.int .i64) td),.live (.data 4 .bool wt)])) (z:Nat):∀(s:Int) (wt:List Bool) (td:List Int),0≤s→s+z=S.length→Queue wt td N→(∀j:Nat,j<s.toNat→wt.getD j false=true)→GetsK Tryd.prog Tryd.f123.results.toList [none,none] (KK n59) 0 (.tup [.agg [.own 0 0 n none,.own 1 0 sE.length none,.v (.bool rE)],.v (.int .i64 0)],[],[.data 22 (.int .u64) (Mi mE),.nest kW sE none]) 0 (stOf 143 [2,5,6,7,8,9,10,45,46] [.ptr 0 0 0,.ptr 1 0 0,.own 2 0 A.length none,.own 3 0 Z.length none,.ptr 4 0 0,.ptr 5 0 0,.fn 144 [.ptr 5 0 0,.ptr 4 0 0],.v (.int .i64 S.length),.v (.int .i64 s)] [.live (.box 151 [.v (.slice none 0 0),.v (.slice none 0 0),.v (.bool false)]),.live (.box 176 [slW W,slS S,.own 6 0 n (some n),.own 7 0 ms.length none]),.live (.data 61 SeT A),.live (.data 61 SeT Z),.live (.box 27 [.own 8 0 td.length none]),.live (.box 44 [.own 9 0 N (some N)]),.live (.data 22 (.int .u64) (Mi m)),.live (.nest kW ms none),.live (.data 3 (.int .i64) td),.live (.data 4 .bool wt)]):=by
 induction z with
 |zero=>
  intro s wt td s0 hs q hw
  have h1:=hx wt td q (fun j hj=>hw j (by omega))
  refine gets_vc (flag [2000115] spNa) (fun k=> [[2,5,6,7,8,9,10,45,46],[2,5,6,7,8,9,10],[2,5,6,7,8,9,10,66,67,68],[2,5,15,99,100,101],[2,5,15,99,100,101,121,122,123]].getD k []) (fun k=>if k<3 then [⟨1000000008,3,.int .i64⟩] else if k=99 then [⟨1000000002,22,.int .u64⟩,⟨4010002,27,WT⟩] else []) 400 (.fork (.hd 0) (.hd 1)) (V:=vq39 W S A Z n N m ms s wt td) hmG (fun G R=>by kernel_rfl) ?_
  unfold vq39
  try dsimp only
  simp only[List.drop_zero,List.take_length]
  simp (disch:=omega) only[oo,oop,ne_eq,Ty.dflt,reduceCtorEq]
  repeat' (first|with_reducible refine And.intro ?_ ?_|intro _)
  all_goals first|rfl|omega|assumption|trivial|(exfalso;simp_all;done)|(exfalso;omega)|skip
 |succ z ih=>
  intro s wt td s0 hs q hw
  have hs1:IntKind.i64.wrap (s+1)=s+1:=wrG (by omega) (by omega)
  obtain⟨q1,g1,p1⟩:=put_queue q (s:=s) (by omega)
  have l0:=q.long
  have c1:=d98 s N td.length wt td q.len rfl (by omega) (by omega)
  have n1:(putF wt td s).1.length=wt.length:=by rw[q1.len,q.len]
  have h1:=ih (s+1) _ _ (by omega) (by omega) q1 (fun j hj=>by
   by_cases e:j<s.toNat
   ·exact g1 j (hw j e)
   ·have:j=s.toNat:=by omega
    rw[this]
    exact p1 s0)
  refine gets_vc (flag [2000115] spNa) (fun k=> [[2,5,6,7,8,9,10,45,46],[2,5,6,7,8,9,10],[2,5,6,7,8,9,10,66,67,68],[2,5,15,99,100,101],[2,5,15,99,100,101,121,122,123]].getD k []) (fun k=>if k<3 then [⟨1000000008,3,.int .i64⟩] else if k=99 then [⟨1000000002,22,.int .u64⟩,⟨4010002,27,WT⟩] else []) 400 (.fork (.hd 0) (.hd 1)) (V:=vq39 W S A Z n N m ms s wt td) hmG (fun G R=>by kernel_rfl) ?_
  unfold vq39
  try dsimp only
  simp only[hs1,List.drop_zero,List.take_length]
  simp (disch:=omega) only[oo,oop,ne_eq,Ty.dflt,reduceCtorEq]
  repeat' (first|with_reducible refine And.intro ?_ ?_|intro _)
  all_goals first|rfl|omega|assumption|trivial|(exfalso;simp_all;done)|(exfalso;omega)|skip
theorem d59 (g:Gr) (W:List (List Int)) (M:List Nat) (hM:Smalls M):Con Tryd.prog 123 [] [.agg [.v (.int .i64 g.h),.v (.int .i64 g.w),.sl false false .bool g.B,.sl false false .bool g.R,.sl false false .bool g.L,slW W,slU M]] (narVal (narM ⟨g,W,M⟩) (narW ⟨g,W,M⟩) (narO ⟨g,W,M⟩) (checkP ⟨g,W,M⟩)) [] [.data 22 (.int .u64) (Mi (narM ⟨g,W,M⟩)),.nest kW (narW ⟨g,W,M⟩) none]:=by
 refine con_vc (how:=[none,none]) (c:=n59) (K:=(KK n59)) (flag [2000115] spNa) (fun k=> [[2,5,6,7,8,9,10,45,46],[2,5,6,7,8,9,10],[2,5,6,7,8,9,10,66,67,68],[2,5,15,99,100,101],[2,5,15,99,100,101,121,122,123]].getD k []) (fun k=>if k<3 then [⟨1000000008,3,.int .i64⟩] else if k=99 then [⟨1000000002,22,.int .u64⟩,⟨4010002,27,WT⟩] else []) 400 (.fork .stop (.hd 0)) (V:=fun G R=>let yy0:=(Pr.mk g W (Nt (Mi M)));let yy1:=(Ty.int .i64);let yy2:=(↑(slotsF yy0.g).length:Int);let yy3:=(mayF yy0.W (slotsF yy0.g));let yy4:=(Ty.int .u64);Con Tryd.prog 89 [] [D.agg [D.v (Value.int .i64 yy0.g.h),D.v (Value.int .i64 yy0.g.w),D.sl false false Ty.bool yy0.g.B,D.sl false false Ty.bool yy0.g.R,D.sl false false Ty.bool yy0.g.L,D.sl false false yy1.sl yy0.W,D.sl false false yy4 (Mi yy0.M)]] (D.v (Value.int .i64 (checkP yy0))) [] []∧Value.int .i64 g.h=Value.int .i64 yy0.g.h∧Value.int .i64 g.w=Value.int .i64 yy0.g.w∧g.B=yy0.g.B∧g.R=yy0.g.R∧g.L=yy0.g.L∧W=yy0.W∧Mi M=Mi yy0.M∧((checkP yy0 !=(0:Int))=true→R (D.tup [D.agg [D.own 0 0 0 none,D.own 1 0 0 none,D.v (Value.bool false)],D.v (Value.int .i64 (checkP yy0))],[],[Row.data 22 yy4 [],Row.nest (NK.mk 27 yy1.sl 0 3 yy1) [] none]))∧((checkP yy0 !=(0:Int))=false→Con Tryd.prog 143 [] [D.agg [D.v (Value.int .i64 yy0.g.h),D.v (Value.int .i64 yy0.g.w),D.sl false false Ty.bool yy0.g.B,D.sl false false Ty.bool yy0.g.R,D.sl false false Ty.bool yy0.g.L,D.sl false false yy1.sl yy0.W,D.sl false false yy4 (Mi yy0.M)]] (D.ptr 0 0 0) [] [Row.box 176 [D.sl false false yy1.sl yy0.W,D.sl false false (yy1.prod (Ty.bool.prod yy1.sl)) (slotsF yy0.g),D.own 1 0 yy0.M.length (some yy0.M.length),D.own 2 0 yy3.length none],Row.data 22 yy4 (Mi (m0F yy0)),Row.nest (NK.mk 27 yy1.sl 0 3 yy1) yy3 none]∧Value.int .i64 g.h=Value.int .i64 yy0.g.h∧Value.int .i64 g.w=Value.int .i64 yy0.g.w∧g.B=yy0.g.B∧g.R=yy0.g.R∧g.L=yy0.g.L∧W=yy0.W∧Mi M=Mi yy0.M∧Con Tryd.prog 40 [] [D.agg [D.v (Value.int .i64 g.h),D.v (Value.int .i64 g.w),D.sl false false Ty.bool g.B,D.sl false false Ty.bool g.R,D.sl false false Ty.bool g.L]] (D.tup [D.own 0 0 (seatsF g).fst.length none,D.own 1 0 (seatsF g).snd.length none]) [] [Row.data 61 (yy1.prod yy1) (seatsF g).fst,Row.data 61 (yy1.prod yy1) (seatsF g).snd]∧Value.int .i64 g.h=Value.int .i64 g.h∧Value.int .i64 g.w=Value.int .i64 g.w∧g.B=g.B∧g.R=g.R∧g.L=g.L∧(0:Int)≤yy2∧yy2≤yy2∧yy2≤(9223372036854775807:Int)∧yy2.toNat*1≤281474976710656∧SameK (KK n59 0) (KK n59 0)∧G 0 (stOf 143 [2,5,6,7,8,9,10,45,46] [D.ptr 0 0 0,D.ptr 1 0 0,D.own 2 0 (seatsF g).fst.length none,D.own 3 0 (seatsF g).snd.length none,D.ptr 4 0 0,D.ptr 5 0 0,D.fn 144 [D.ptr 5 0 0,D.ptr 4 0 0],D.v (Value.int .i64 yy2),D.v (Value.int .i64 (0:Int))] [Slot.live (Row.box 151 [D.v (Value.slice none 0 0),D.v (Value.slice none 0 0),D.v (Value.bool false)]),Slot.live (Row.box 176 [D.sl false false yy1.sl yy0.W,D.sl false false (yy1.prod (Ty.bool.prod yy1.sl)) (slotsF yy0.g),D.own 6 0 yy0.M.length (some yy0.M.length),D.own 7 0 yy3.length none]),Slot.live (Row.data 61 (yy1.prod yy1) (seatsF g).fst),Slot.live (Row.data 61 (yy1.prod yy1) (seatsF g).snd),Slot.live (Row.box 27 [D.own 8 0 0 none]),Slot.live (Row.box 44 [D.own 9 0 yy2.toNat (some yy2.toNat)]),Slot.live (Row.data 22 yy4 (Mi (m0F yy0))),Slot.live (Row.nest (NK.mk 27 yy1.sl 0 3 yy1) yy3 none),Slot.live (Row.data 3 yy1 []),Slot.live (Row.data 4 Ty.bool (List.replicate yy2.toNat false))]))) hmG Tryd.func123 (by kernel_rfl) (by kernel_rfl) (fun G R=>by kernel_rfl) ?_
 try dsimp only
 try dsimp only
 have c0:=d62 g W M
 unfold narVal
 simp only[Nt_Mi,Mi_len,Int.toNat_natCast]
 by_cases h:checkP ⟨g,W,M⟩=0
 ·have F:=fine_of h hM
  have hsz:=F.size
  obtain⟨B,hA,hZ⟩:=board_of h hM
  have c1:=d97 g W M F
  have c2:=d77 g
  have hl:=narM_len ⟨g,W,M⟩ h
  have e1:narM ⟨g,W,M⟩=gfpF W (slotsF g) (m0F ⟨g,W,M⟩):=if_pos h
  have e2:narW ⟨g,W,M⟩=wordsF W (slotsF g) (narM ⟨g,W,M⟩):=if_pos h
  have e3:narO ⟨g,W,M⟩=okF (slotsF g) (narM ⟨g,W,M⟩) (narW ⟨g,W,M⟩):=if_pos h
  have hml:(m0F ⟨g,W,M⟩).length=M.length:=by
   unfold m0F
   rw[seatSlots_len]
   simp
  have hms:Smalls (m0F ⟨g,W,M⟩):=seatSlots_small hM _ (rep_small _)
  have F0:Fine W (slotsF g) (m0F ⟨g,W,M⟩):=⟨F.words,F.long,F.slots,fun s hs=>by rw[hml];exact F.cells s hs,by omega,hms⟩
  have hS:(slotsF g).length≤900:=slots_900 (checkP_zero h).1
  have hq:Queue (List.replicate (slotsF g).length false) [] (slotsF g).length:=queue_new _
  have hx:=e59p W (slotsF g) (seatsF g).1 (seatsF g).2 M.length (slotsF g).length (m0F ⟨g,W,M⟩) (mayF W (slotsF g)) hS rfl (narM ⟨g,W,M⟩) (narW ⟨g,W,M⟩) (narO ⟨g,W,M⟩)
   (fun wt td q hw=>e59a W (slotsF g) (seatsF g).1 (seatsF g).2 M.length (m0F ⟨g,W,M⟩) hml F0 hS (by rw[hml];exact B) hA hZ (slotsF g).length rfl _ _ _ e1 e2 e3 _ _ _ wt td (Nat.lt_succ_self _) (inv_start q hw))
   (slotsF g).length 0 (List.replicate (slotsF g).length false) [] (by omega) (by omega) hq (fun j hj=>by simp at hj)
  rw[h] at c0⊢
  rw[hl]
  simp only[show((0:Int) !=0)=false from rfl]
  simp (disch:=omega) only[oo,oop,ne_eq,Ty.dflt,reduceCtorEq]
  repeat' (first|with_reducible refine And.intro ?_ ?_|intro _)
  all_goals first|rfl|omega|assumption|trivial|exact c1|exact c2|exact hx|skip
 ·have e1:narM ⟨g,W,M⟩=[]:=if_neg h
  have e2:narW ⟨g,W,M⟩=[]:=if_neg h
  have e3:narO ⟨g,W,M⟩=false:=if_neg h
  rw[e1,e2,e3]
  have hb:(checkP ⟨g,W,M⟩ !=0)=true:=by rw[bne_iff_ne];exact h
  simp only[hb]
  simp (disch:=omega) only[oo,oop,ne_eq,Ty.dflt,reduceCtorEq]
  repeat' (first|with_reducible refine And.intro ?_ ?_|intro _)
  all_goals first|rfl|omega|assumption|trivial|(exfalso;simp_all;done)|(exfalso;omega)|skip
end Go.Proofs.YtnakmganodkliaaDoorAm
set_option maxRecDepth 100000
namespace Go.Proofs.YtnakmganodkliaaDoorAm
open Go
def spNb:Sp:=fun f args rd=>match f,args with
 |53,[.agg [.v (.int _ h),.v (.int _ w),b,r,l,ws,ms]]=>withP rd h w b r l ws ms fun p ls=>some {f:=53,args:=[p.d],val:= .agg [.v (.int .i64 p.g.h),.v (.int .i64 p.g.w),.own 0 0 p.g.B.length none,.own 1 0 p.g.R.length none,.own 2 0 p.g.L.length none,.own 3 0 p.W.length none,.own 4 0 p.M.length none],allocs:=[.data 4 .bool p.g.B,.data 4 .bool p.g.R,.data 4 .bool p.g.L,.data 27 WT p.W,.data 22 (.int .u64) (Mi p.M)],lent:=ls}
 |57,[.agg [.v (.int _ h),.v (.int _ w),b,r,l,ws,ms],.agg [.v (.int _ h'),.v (.int _ w'),b',r',l',ws',ms']]=>withP rd h w b r l ws ms fun p ls=>withP rd h' w' b' r' l' ws' ms' fun q ls'=>some {f:=57,args:=[p.d,q.d],val:= .v (.bool (decide (p.g=q.g∧p.M=q.M∧p.W=q.W))),lent:=ls++ls'}
 |f,args=>spNa f args rd
structure Pr.fits (p:Pr):Prop where
 g:p.g.fits
 W:p.W.length≤5864062014805
 w:∀w∈p.W,w.length≤17592186044416
 M:p.M.length≤17592186044416
 small:Smalls p.M
theorem roomB {n:Nat} (h:n≤140737488355328):roomy Tryd.prog 4 n:=by
 unfold roomy
 rw[show Tryd.prog.bytesOf 4=1 by kernel_rfl]
 omega
theorem roomI {n:Nat} (h:n≤17592186044416):roomy Tryd.prog 3 n:=by
 unfold roomy
 rw[show Tryd.prog.bytesOf 3=8 by kernel_rfl]
 omega
theorem roomU {n:Nat} (h:n≤17592186044416):roomy Tryd.prog 22 n:=by
 unfold roomy
 rw[bytes80]
 omega
theorem roomW {n:Nat} (h:n≤5864062014805):roomy Tryd.prog 27 n:=by
 unfold roomy
 rw[bytes46]
 omega
end Go.Proofs.YtnakmganodkliaaDoorAm
set_option maxRecDepth 100000
namespace Go.Proofs.YtnakmganodkliaaDoorAm
open Go
theorem e58 (g:Gr) (W:List (List Int)) (M:List Nat) (hW:W.length≤5864062014805) (hw:∀w∈W,w.length≤17592186044416) (z:Nat):∀(i:Int) (V:List (List Int)),0≤i→i+z=W.length→V=W.take i.toNat→GetsK Tryd.prog Tryd.f53.results.toList [none] (KK n58) 0 (.agg [.v (.int .i64 g.h),.v (.int .i64 g.w),.own 0 0 g.B.length none,.own 1 0 g.R.length none,.own 2 0 g.L.length none,.own 3 0 W.length none,.own 4 0 M.length none],[],[.data 4 .bool g.B,.data 4 .bool g.R,.data 4 .bool g.L,.data 27 WT W,.data 22 (.int .u64) (Mi M)]) 0 (stOf 52 [1,2,3,4] [.ptr 0 0 0,.ptr 1 0 0,.ptr 2 0 0,.v (.int .i64 i)] [.live (.box 73 [.v (.int .i64 g.h),.v (.int .i64 g.w),.sl false false .bool g.B,.sl false false .bool g.R,.sl false false .bool g.L,slW W,slU M]),.live (.box 73 [.v (.int .i64 0),.v (.int .i64 0),.v (.slice none 0 0),.v (.slice none 0 0),.v (.slice none 0 0),.v (.slice none 0 0),.v (.slice none 0 0)]),.live (.box 73 [.v (.int .i64 g.h),.v (.int .i64 g.w),.own 3 0 g.B.length none,.own 4 0 g.R.length none,.own 5 0 g.L.length none,.own 6 0 V.length none,.own 7 0 M.length none]),.live (.data 4 .bool g.B),.live (.data 4 .bool g.R),.live (.data 4 .bool g.L),.live (.data 27 WT V),.live (.data 22 (.int .u64) (Mi M))]):=by
 induction z with
 |zero=>
  intro i V i0 hi hV
  rw[List.take_of_length_le (by omega)] at hV
  rw[hV]
  refine gets_vc spNb (fun _=> [1,2,3,4]) (fun k=>if k=0 then [⟨50003,27,WT⟩] else []) 400 (.fork (.hd 0) .stop) (V:=fun G R=>let yy0:=(Ty.int .i64);let yy1:=(Value.slice none 0 0);(decide (i< (↑W.length:Int))=true→(0:Int)≤i∧i< (↑W.length:Int)∧roomy Tryd.prog 3 (0+List.length (W.getD i.toNat yy0.sl.dflt))∧roomy Tryd.prog 27 (W.length+1)∧SameK (KK n58 0) (KK n58 0)∧G 0 (stOf 52 [1,2,3,4] [D.ptr 0 0 0,D.ptr 1 0 0,D.ptr 2 0 0,D.v (Value.int .i64 (IntKind.i64.wrap (i+(1:Int))))] [Slot.live (Row.box 73 [D.v (Value.int .i64 g.h),D.v (Value.int .i64 g.w),D.sl false false Ty.bool g.B,D.sl false false Ty.bool g.R,D.sl false false Ty.bool g.L,D.sl false false yy0.sl W,D.sl false false (Ty.int .u64) (Mi M)]),Slot.live (Row.box 73 [D.v (Value.int .i64 (0:Int)),D.v (Value.int .i64 (0:Int)),D.v yy1,D.v yy1,D.v yy1,D.v yy1,D.v yy1]),Slot.live (Row.box 73 [D.v (Value.int .i64 g.h),D.v (Value.int .i64 g.w),D.own 3 0 g.B.length none,D.own 4 0 g.R.length none,D.own 5 0 g.L.length none,D.own 6 0 (W.length+1) none,D.own 7 0 M.length none]),Slot.live (Row.data 4 Ty.bool g.B),Slot.live (Row.data 4 Ty.bool g.R),Slot.live (Row.data 4 Ty.bool g.L),Slot.live (Row.data 27 yy0.sl (List.take W.length (List.drop 0 W)++List.take 1 (List.drop 0 [List.take (0+List.length (W.getD i.toNat yy0.sl.dflt)) (List.drop 0 (List.take 0 (List.drop 0 [])++W.getD i.toNat yy0.sl.dflt))]))),Slot.live (Row.data 22 (Ty.int .u64) (Mi M))]))∧(decide (i< (↑W.length:Int))=false→R (D.agg [D.v (Value.int .i64 g.h),D.v (Value.int .i64 g.w),D.own 0 0 g.B.length none,D.own 1 0 g.R.length none,D.own 2 0 g.L.length none,D.own 3 0 W.length none,D.own 4 0 M.length none],[],[Row.data 4 Ty.bool g.B,Row.data 4 Ty.bool g.R,Row.data 4 Ty.bool g.L,Row.data 27 yy0.sl W,Row.data 22 (Ty.int .u64) (Mi M)]))) hmG (fun G R=>by kernel_rfl) ?_
  try dsimp only
  simp only[take_len,List.drop_zero,List.take_length,Mi_getD,Mi_len,Nt_Mi,Int.toNat_natCast,Mi_set,Nat.zero_add,Nat.sub_zero,List.length_set,take_one,takeSn,List.take_zero,List.nil_append,List.length_append,List.length_cons,List.length_nil]
  simp (disch:=omega) only[oo,oop,ne_eq,Ty.dflt,reduceCtorEq]
  repeat' (first|with_reducible refine And.intro ?_ ?_|intro _)
  all_goals first|rfl|omega|assumption|trivial|exact roomW (by omega)|exact roomI (by omega)|exact roomU (by omega)|exact roomB (by omega)|(exfalso;simp_all;done)|(exfalso;omega)|skip
 |succ z ih=>
  intro i V i0 hi hV
  have hk1:IntKind.i64.wrap (i+1)=i+1:=wrG (by omega) (by omega)
  have ht:=take_succ_at ([]:List Int) W i0 (by omega)
  obtain⟨w,hww⟩:∃w,W.getD i.toNat []=w:=⟨_,rfl⟩
  have hwl:w.length≤17592186044416:=by rw[←hww];exact hw _ (getD_in (by omega))
  rw[hww] at ht
  have hVl:V.length=i.toNat:=by rw[hV,List.length_take];omega
  have hx:=ih (i+1) (V++[w]) (by omega) (by omega) (by rw[ht,hV])
  rw[List.length_append,List.length_cons,List.length_nil] at hx
  refine gets_vc spNb (fun _=> [1,2,3,4]) (fun k=>if k=0 then [⟨50003,27,WT⟩] else []) 400 (.fork (.hd 0) .stop) (V:=fun G R=>let yy0:=(Ty.int .i64);let yy1:=(Value.slice none 0 0);(decide (i< (↑W.length:Int))=true→(0:Int)≤i∧i< (↑W.length:Int)∧roomy Tryd.prog 3 (0+List.length (W.getD i.toNat yy0.sl.dflt))∧roomy Tryd.prog 27 (V.length+1)∧SameK (KK n58 0) (KK n58 0)∧G 0 (stOf 52 [1,2,3,4] [D.ptr 0 0 0,D.ptr 1 0 0,D.ptr 2 0 0,D.v (Value.int .i64 (IntKind.i64.wrap (i+(1:Int))))] [Slot.live (Row.box 73 [D.v (Value.int .i64 g.h),D.v (Value.int .i64 g.w),D.sl false false Ty.bool g.B,D.sl false false Ty.bool g.R,D.sl false false Ty.bool g.L,D.sl false false yy0.sl W,D.sl false false (Ty.int .u64) (Mi M)]),Slot.live (Row.box 73 [D.v (Value.int .i64 (0:Int)),D.v (Value.int .i64 (0:Int)),D.v yy1,D.v yy1,D.v yy1,D.v yy1,D.v yy1]),Slot.live (Row.box 73 [D.v (Value.int .i64 g.h),D.v (Value.int .i64 g.w),D.own 3 0 g.B.length none,D.own 4 0 g.R.length none,D.own 5 0 g.L.length none,D.own 6 0 (V.length+1) none,D.own 7 0 M.length none]),Slot.live (Row.data 4 Ty.bool g.B),Slot.live (Row.data 4 Ty.bool g.R),Slot.live (Row.data 4 Ty.bool g.L),Slot.live (Row.data 27 yy0.sl (List.take V.length (List.drop 0 V)++List.take 1 (List.drop 0 [List.take (0+List.length (W.getD i.toNat yy0.sl.dflt)) (List.drop 0 (List.take 0 (List.drop 0 [])++W.getD i.toNat yy0.sl.dflt))]))),Slot.live (Row.data 22 (Ty.int .u64) (Mi M))]))∧(decide (i< (↑W.length:Int))=false→R (D.agg [D.v (Value.int .i64 g.h),D.v (Value.int .i64 g.w),D.own 0 0 g.B.length none,D.own 1 0 g.R.length none,D.own 2 0 g.L.length none,D.own 3 0 V.length none,D.own 4 0 M.length none],[],[Row.data 4 Ty.bool g.B,Row.data 4 Ty.bool g.R,Row.data 4 Ty.bool g.L,Row.data 27 yy0.sl V,Row.data 22 (Ty.int .u64) (Mi M)]))) hmG (fun G R=>by kernel_rfl) ?_
  try dsimp only
  simp only[Ty.dflt,hk1,hww,take_len,List.drop_zero,List.take_length,Mi_getD,Mi_len,Nt_Mi,Int.toNat_natCast,Mi_set,Nat.zero_add,Nat.sub_zero,List.length_set,take_one,takeSn,List.take_zero,List.nil_append,List.length_append,List.length_cons,List.length_nil]
  simp (disch:=omega) only[oo,oop,ne_eq,Ty.dflt,reduceCtorEq]
  repeat' (first|with_reducible refine And.intro ?_ ?_|intro _)
  all_goals first|rfl|omega|assumption|trivial|exact roomW (by omega)|exact roomI (by omega)|exact roomU (by omega)|exact roomB (by omega)|(exfalso;simp_all;done)|(exfalso;omega)|skip
theorem d58 (g:Gr) (W:List (List Int)) (M:List Nat) (hg:g.fits) (hW:W.length≤5864062014805) (hw:∀w∈W,w.length≤17592186044416) (hM:M.length≤17592186044416):Con Tryd.prog 53 [] [.agg [.v (.int .i64 g.h),.v (.int .i64 g.w),.sl false false .bool g.B,.sl false false .bool g.R,.sl false false .bool g.L,slW W,slU M]] (.agg [.v (.int .i64 g.h),.v (.int .i64 g.w),.own 0 0 g.B.length none,.own 1 0 g.R.length none,.own 2 0 g.L.length none,.own 3 0 W.length none,.own 4 0 M.length none]) [] [.data 4 .bool g.B,.data 4 .bool g.R,.data 4 .bool g.L,.data 27 WT W,.data 22 (.int .u64) (Mi M)]:=by
 refine con_vc (how:=[none]) (c:=n58) (K:=(KK n58)) spNb (fun _=> [1,2,3,4]) (fun k=>if k=0 then [⟨50003,27,WT⟩] else []) 400 (.hd 0) (V:=fun G R=>let yy0:=(Value.slice none 0 0);roomy Tryd.prog 4 (0+g.B.length)∧roomy Tryd.prog 4 (0+g.R.length)∧roomy Tryd.prog 4 (0+g.L.length)∧roomy Tryd.prog 22 (0+(Mi M).length)∧SameK (KK n58 0) (KK n58 0)∧G 0 (stOf 52 [1,2,3,4] [D.ptr 0 0 0,D.ptr 1 0 0,D.ptr 2 0 0,D.v (Value.int .i64 (0:Int))] [Slot.live (Row.box 73 [D.v (Value.int .i64 g.h),D.v (Value.int .i64 g.w),D.sl false false Ty.bool g.B,D.sl false false Ty.bool g.R,D.sl false false Ty.bool g.L,D.sl false false (Ty.int .i64).sl W,D.sl false false (Ty.int .u64) (Mi M)]),Slot.live (Row.box 73 [D.v (Value.int .i64 (0:Int)),D.v (Value.int .i64 (0:Int)),D.v yy0,D.v yy0,D.v yy0,D.v yy0,D.v yy0]),Slot.live (Row.box 73 [D.v (Value.int .i64 g.h),D.v (Value.int .i64 g.w),D.own 3 0 (0+g.B.length) none,D.own 4 0 (0+g.R.length) none,D.own 5 0 (0+g.L.length) none,D.own 6 0 0 none,D.own 7 0 (0+(Mi M).length) none]),Slot.live (Row.data 4 Ty.bool (List.take 0 (List.drop 0 [])++g.B)),Slot.live (Row.data 4 Ty.bool (List.take 0 (List.drop 0 [])++g.R)),Slot.live (Row.data 4 Ty.bool (List.take 0 (List.drop 0 [])++g.L)),Slot.live (Row.data 27 (Ty.int .i64).sl []),Slot.live (Row.data 22 (Ty.int .u64) (List.take 0 (List.drop 0 [])++Mi M))])) hmG Tryd.func53 (by kernel_rfl) (by kernel_rfl) (fun G R=>by kernel_rfl) ?_
 try dsimp only
 try dsimp only
 obtain⟨f1,f2,f3⟩:=hg
 have hx:=e58 g W M hW hw W.length 0 [] (by omega) (by omega) rfl
 simp only[take_len,List.drop_zero,List.take_length,Mi_getD,Mi_len,Nt_Mi,Int.toNat_natCast,Mi_set,Nat.zero_add,Nat.sub_zero,List.length_set,take_one,takeSn,List.take_zero,List.nil_append,List.length_append,List.length_cons,List.length_nil]
 simp (disch:=omega) only[oo,oop,ne_eq,Ty.dflt,reduceCtorEq]
 repeat' (first|with_reducible refine And.intro ?_ ?_|intro _)
 all_goals first|rfl|omega|assumption|trivial|exact roomW (by omega)|exact roomI (by omega)|exact roomU (by omega)|exact roomB (by omega)|(exfalso;simp_all;done)|(exfalso;omega)|skip
def vq40 (g:Gr) (W:List (List Int)) (M:List Nat) (g2:Gr) (W2:List (List Int)) (M2:List Nat) (i:Int) (G:Nat→St→Prop) (R:D×List (Option Row)×List Row→Prop):Prop:=let yy0:=(Ty.int .i64);let yy1:=(W.getD i.toNat yy0.sl.dflt=W2.getD i.toNat yy0.sl.dflt);(decide (i< (↑W.length:Int))=true→(0:Int)≤i∧i< (↑W.length:Int)∧(0:Int)≤i∧i< (↑W2.length:Int)∧Con Tryd.prog 23 [] [D.sl false false yy0 (W.getD i.toNat yy0.sl.dflt),D.sl false false yy0 (W2.getD i.toNat yy0.sl.dflt)] (D.v (Value.bool (decide yy1))) [] []∧W.getD i.toNat yy0.sl.dflt=W.getD i.toNat yy0.sl.dflt∧W2.getD i.toNat yy0.sl.dflt=W2.getD i.toNat yy0.sl.dflt∧((!decide yy1)=true→R (D.v (Value.bool false),[],[]))∧((!decide yy1)=false→SameK (KK n64 0) (KK n64 0)∧G 0 (stOf 48 [2,3,5] [D.ptr 0 0 0,D.ptr 1 0 0,D.v (Value.int .i64 (IntKind.i64.wrap (i+(1:Int))))] [Slot.live (Row.box 73 [D.v (Value.int .i64 g.h),D.v (Value.int .i64 g.w),D.sl false false Ty.bool g.B,D.sl false false Ty.bool g.R,D.sl false false Ty.bool g.L,D.sl false false yy0.sl W,D.sl false false (Ty.int .u64) (Mi M)]),Slot.live (Row.box 73 [D.v (Value.int .i64 g2.h),D.v (Value.int .i64 g2.w),D.sl false false Ty.bool g2.B,D.sl false false Ty.bool g2.R,D.sl false false Ty.bool g2.L,D.sl false false yy0.sl W2,D.sl false false (Ty.int .u64) (Mi M2)])])))∧(decide (i< (↑W.length:Int))=false→R (D.v (Value.bool true),[],[]))
theorem e64 (g:Gr) (W:List (List Int)) (M:List Nat) (g2:Gr) (W2:List (List Int)) (M2:List Nat) (hl:W.length=W2.length) (hW:W.length≤5864062014805) (hw:∀w∈W,w.length≤17592186044416) (z:Nat):∀(i:Int),0≤i→i+z=W.length→∀r,r=decide (W.drop i.toNat=W2.drop i.toNat)→GetsK Tryd.prog Tryd.f57.results.toList [none] (KK n64) 0 (.v (.bool r),[],[]) 0 (stOf 48 [2,3,5] [.ptr 0 0 0,.ptr 1 0 0,.v (.int .i64 i)] [.live (.box 73 [.v (.int .i64 g.h),.v (.int .i64 g.w),.sl false false .bool g.B,.sl false false .bool g.R,.sl false false .bool g.L,slW W,slU M]),.live (.box 73 [.v (.int .i64 g2.h),.v (.int .i64 g2.w),.sl false false .bool g2.B,.sl false false .bool g2.R,.sl false false .bool g2.L,slW W2,slU M2])]):=by
 induction z with
 |zero=>
  intro i i0 hi r hr
  rw[List.drop_eq_nil_of_le (by omega),List.drop_eq_nil_of_le (by omega)] at hr
  have hr:r=true:=by rw[hr];rfl
  rw[hr]
  refine gets_vc spNb (fun _=> [2,3,5]) (fun _=> []) 400 (.fork (.fork .stop (.hd 0)) .stop) (V:=vq40 g W M g2 W2 M2 i) hmG (fun G R=>by kernel_rfl) ?_
  unfold vq40
  try dsimp only
  simp (disch:=omega) only[oo,oop,ne_eq,Ty.dflt,reduceCtorEq]
  repeat' (first|with_reducible refine And.intro ?_ ?_|intro _)
  all_goals first|rfl|omega|assumption|trivial|(exfalso;simp_all;done)|(exfalso;omega)|skip
 |succ z ih=>
  intro i i0 hi r hr
  rw[drop_at (xs:=W) (i:=i) ([]:List Int) i0 (by omega),drop_at (xs:=W2) (i:=i) ([]:List Int) i0 (by omega)] at hr
  have hk1:IntKind.i64.wrap (i+1)=i+1:=wrG (by omega) (by omega)
  have hx:=ih (i+1) (by omega) (by omega) _ rfl
  have c1:=d41 (W.getD i.toNat []) (W2.getD i.toNat []) (by have:=hw _ (getD_in (d:=[]) (k:=i.toNat) (l:=W) (by omega));omega)
  refine gets_vc spNb (fun _=> [2,3,5]) (fun _=> []) 400 (.fork (.fork .stop (.hd 0)) .stop) (V:=vq40 g W M g2 W2 M2 i) hmG (fun G R=>by kernel_rfl) ?_
  unfold vq40
  try dsimp only
  simp only[Ty.dflt,hk1]
  by_cases h:W.getD i.toNat []=W2.getD i.toNat []
  ·have hr:r=decide (W.drop (i+1).toNat=W2.drop (i+1).toNat):=by
    rw[hr]
    simp only[List.cons.injEq,h,true_and]
   rw[←hr] at hx
   simp only[h,decide_true] at c1
   simp only[h,decide_true]
   simp (disch:=omega) only[oo,oop,ne_eq,Ty.dflt,reduceCtorEq]
   repeat' (first|with_reducible refine And.intro ?_ ?_|intro _)
   all_goals first|rfl|omega|assumption|trivial|(exfalso;simp_all;done)|(exfalso;omega)|skip
  ·have hr:r=false:=by
    rw[hr]
    refine decide_eq_false (fun e=>h ?_)
    rw[List.cons.injEq] at e
    exact e.1
   rw[hr]
   simp only[h,decide_false] at c1
   simp only[h,decide_false]
   simp (disch:=omega) only[oo,oop,ne_eq,Ty.dflt,reduceCtorEq]
   repeat' (first|with_reducible refine And.intro ?_ ?_|intro _)
   all_goals first|rfl|omega|assumption|trivial|(exfalso;simp_all;done)|(exfalso;omega)|skip
theorem d64 (g:Gr) (W:List (List Int)) (M:List Nat) (g2:Gr) (W2:List (List Int)) (M2:List Nat) (hg:g.small) (hM:M.length≤17592186044416) (hW:W.length≤5864062014805) (hw:∀w∈W,w.length≤17592186044416):Con Tryd.prog 57 [] [.agg [.v (.int .i64 g.h),.v (.int .i64 g.w),.sl false false .bool g.B,.sl false false .bool g.R,.sl false false .bool g.L,slW W,slU M],.agg [.v (.int .i64 g2.h),.v (.int .i64 g2.w),.sl false false .bool g2.B,.sl false false .bool g2.R,.sl false false .bool g2.L,slW W2,slU M2]] (.v (.bool (decide (g=g2∧M=M2∧W=W2)))) [] []:=by
 refine con_vc (how:=[none]) (c:=n64) (K:=(KK n64)) spNb (fun _=> [2,3,5]) (fun _=> []) 400 (.fork (.t (.t .stop)) (.fork (.t .stop) (.fork .stop (.hd 0)))) (V:=fun G R=>let yy0:=(Gr.mk g.h g.w g.B g.R g.L=Gr.mk g2.h g2.w g2.B g2.R g2.L);Con Tryd.prog 43 [] [D.agg [D.v (Value.int .i64 g.h),D.v (Value.int .i64 g.w),D.sl false false Ty.bool g.B,D.sl false false Ty.bool g.R,D.sl false false Ty.bool g.L],D.agg [D.v (Value.int .i64 g2.h),D.v (Value.int .i64 g2.w),D.sl false false Ty.bool g2.B,D.sl false false Ty.bool g2.R,D.sl false false Ty.bool g2.L]] (D.v (Value.bool (decide yy0))) [] []∧Value.int .i64 g.h=Value.int .i64 g.h∧Value.int .i64 g.w=Value.int .i64 g.w∧g.B=g.B∧g.R=g.R∧g.L=g.L∧Value.int .i64 g2.h=Value.int .i64 g2.h∧Value.int .i64 g2.w=Value.int .i64 g2.w∧g2.B=g2.B∧g2.R=g2.R∧g2.L=g2.L∧((!decide yy0)=true→true=true∧true=true∧R (D.v (Value.bool false),[],[]))∧((!decide yy0)=false→Con Tryd.prog 95 [] [D.sl false false (Ty.int .u64) (Mi M),D.sl false false (Ty.int .u64) (Mi M2)] (D.v (Value.bool (decide (Mi M=Mi M2)))) [] []∧Mi M=Mi M∧Mi M2=Mi M2∧((!decide (Mi M=Mi M2))=true→true=true∧R (D.v (Value.bool false),[],[]))∧((!decide (Mi M=Mi M2))=false→(((↑W.length:Int) !=(↑W2.length:Int))=true→R (D.v (Value.bool false),[],[]))∧(((↑W.length:Int) !=(↑W2.length:Int))=false→SameK (KK n64 0) (KK n64 0)∧G 0 (stOf 48 [2,3,5] [D.ptr 0 0 0,D.ptr 1 0 0,D.v (Value.int .i64 (0:Int))] [Slot.live (Row.box 73 [D.v (Value.int .i64 g.h),D.v (Value.int .i64 g.w),D.sl false false Ty.bool g.B,D.sl false false Ty.bool g.R,D.sl false false Ty.bool g.L,D.sl false false (Ty.int .i64).sl W,D.sl false false (Ty.int .u64) (Mi M)]),Slot.live (Row.box 73 [D.v (Value.int .i64 g2.h),D.v (Value.int .i64 g2.w),D.sl false false Ty.bool g2.B,D.sl false false Ty.bool g2.R,D.sl false false Ty.bool g2.L,D.sl false false (Ty.int .i64).sl W2,D.sl false false (Ty.int .u64) (Mi M2)])]))))) hmG Tryd.func57 (by kernel_rfl) (by kernel_rfl) (fun G R=>by kernel_rfl) ?_
 try dsimp only
 try dsimp only
 have c0:=d34 g g2 hg
 have c1:=d102 (Mi M) (Mi M2) (by rw[Mi_len];omega)
 simp only[Nt_Mi]
 by_cases h1:g=g2
 ·subst h1
  simp only[eq_self,decide_true] at c0
  by_cases h2:M=M2
  ·subst h2
   simp only[eq_self,decide_true] at c1
   by_cases hl:W.length=W2.length
   ·have hx:=e64 g W M g W2 M hl hW hw W.length 0 (by omega) (by omega) _ rfl
    have e:decide (g=g∧M=M∧W=W2)=decide (W=W2):=by simp only[true_and]
    rw[e]
    simp only[show(0:Int).toNat=0 by rfl,List.drop_zero] at hx
    have hll:((W.length:Int) !=(W2.length:Int))=false:=by rw[hl];simp
    simp only[eq_self,decide_true,hll,Bool.not_true]
    simp (disch:=omega) only[oo,oop,ne_eq,Ty.dflt,reduceCtorEq]
    repeat' (first|with_reducible refine And.intro ?_ ?_|intro _)
    all_goals first|rfl|omega|assumption|trivial|(exfalso;simp_all;done)|(exfalso;omega)|skip
   ·have e:decide (g=g∧M=M∧W=W2)=false:=decide_eq_false (fun q=>hl (by rw[q.2.2]))
    have hll:((W.length:Int) !=(W2.length:Int))=true:=by rw[bne_iff_ne];omega
    rw[e]
    simp only[eq_self,decide_true,hll,Bool.not_true]
    simp (disch:=omega) only[oo,oop,ne_eq,Ty.dflt,reduceCtorEq]
    repeat' (first|with_reducible refine And.intro ?_ ?_|intro _)
    all_goals first|rfl|omega|assumption|trivial|(exfalso;simp_all;done)|(exfalso;omega)|skip
  ·have h2':¬Mi M=Mi M2:=fun q=>h2 (Mi_inj q)
   have e:decide (g=g∧M=M2∧W=W2)=false:=decide_eq_false (fun q=>h2 q.2.1)
   simp only[h2',decide_false] at c1
   rw[e]
   simp only[eq_self,h2',decide_true,decide_false,Bool.not_true,Bool.not_false]
   simp (disch:=omega) only[oo,oop,ne_eq,Ty.dflt,reduceCtorEq]
   repeat' (first|with_reducible refine And.intro ?_ ?_|intro _)
   all_goals first|rfl|omega|assumption|trivial|(exfalso;simp_all;done)|(exfalso;omega)|skip
 ·have e:decide (g=g2∧M=M2∧W=W2)=false:=decide_eq_false (fun q=>h1 q.1)
  simp only[h1,decide_false] at c0
  rw[e]
  simp only[h1,decide_false,Bool.not_false]
  simp (disch:=omega) only[oo,oop,ne_eq,Ty.dflt,reduceCtorEq]
  repeat' (first|with_reducible refine And.intro ?_ ?_|intro _)
  all_goals first|rfl|omega|assumption|trivial|(exfalso;simp_all;done)|(exfalso;omega)|skip
end Go.Proofs.YtnakmganodkliaaDoorAm
set_option maxRecDepth 100000
namespace Go.Proofs.YtnakmganodkliaaDoorAm
open Go
theorem seatC_get (M:List Nat):∀(cs:List Int) (m:List Nat) (j:Nat),j<m.length→(seatCells M cs m).getD j 0=if cs.any (fun c=>c.toNat==j) then M.getD j 0 else m.getD j 0
 | [],m,j,_=>by simp[seatCells]
 |c::cs,m,j,hj=>by
  simp only[seatCells,List.any_cons]
  rw[seatC_get M cs _ j (by simpa using hj)]
  by_cases h:c.toNat=j
  ·have hs:(m.set c.toNat (M.getD c.toNat 0)).getD j 0=M.getD j 0:=by rw[getD_set_nat,if_pos ⟨h,by omega⟩,h]
   simp only[hs,beq_iff_eq.2 h,Bool.true_or,if_true,ite_self]
  ·have hs:(m.set c.toNat (M.getD c.toNat 0)).getD j 0=m.getD j 0:=by rw[getD_set_nat,if_neg (fun e=>h e.1)]
   simp only[hs,beq_eq_false_iff_ne.2 h,Bool.false_or]
theorem seatS_get (M:List Nat):∀(ss:List Slt) (m:List Nat) (j:Nat),j<m.length→(seatSlots M ss m).getD j 0=if ss.any (fun s=>s.2.2.any (fun c=>c.toNat==j)) then M.getD j 0 else m.getD j 0
 | [],m,j,_=>by simp[seatSlots]
 |s::ss,m,j,hj=>by
  simp only[seatSlots,List.any_cons]
  rw[seatS_get M ss _ j (by rw[seatCells_len];exact hj),seatC_get M _ m j hj]
  rcases Bool.eq_false_or_eq_true (s.2.2.any (fun c=>c.toNat==j)) with h1|h1<;>rcases Bool.eq_false_or_eq_true (ss.any (fun s=>s.2.2.any (fun c=>c.toNat==j))) with h2|h2<;>simp only[h1,h2,Bool.or_true,Bool.true_or,Bool.or_false,Bool.false_eq_true,if_true,if_false]
def seatedB (S:List Slt) (j:Nat):Bool:=S.any fun s=>s.2.2.any fun c=>c.toNat==j
theorem m0_get {p:Pr} {j:Nat} (hj:j<p.M.length):(m0F p).getD j 0=if seatedB (slotsF p.g) j then p.M.getD j 0 else 0:=by
 unfold m0F seatedB
 rw[seatS_get _ _ _ _ (by simpa using hj)]
 have e:(List.replicate p.M.length 0).getD j 0=0:=by
  rw[List.getD_eq_getElem?_getD,List.getElem?_replicate]
  split<;>rfl
 rw[e]
theorem m0_len (p:Pr):(m0F p).length=p.M.length:=by
 unfold m0F
 rw[seatSlots_len]
 simp
theorem again_check {p:Pr} {m:List Nat} (hl:m.length=p.M.length):checkP ⟨p.g,p.W,m⟩=checkP p:=by
 unfold checkP
 simp only[hl]
end Go.Proofs.YtnakmganodkliaaDoorAm
namespace Go.Proofs.YtnakmganodkliaaDoorAm
open Go
theorem narM_eq {p:Pr} (h:checkP p=0):narM p=gfpF p.W (slotsF p.g) (m0F p):=if_pos h
theorem nar_leq {p:Pr} (h:checkP p=0):Leq (narM p) (m0F p):=by rw[narM_eq h];exact gfp_leq _ _ _
theorem nar_small {p:Pr} (h:checkP p=0) (hM:Smalls p.M):Smalls (narM p):=leq_small (nar_leq h) (by
 unfold m0F
 exact seatSlots_small hM _ (rep_small _))
theorem m0_leq {p:Pr}:Leq (m0F p) p.M:=by
 intro c i hi
 have hc:c<p.M.length:=by have:=bit_lt hi;rwa [m0_len] at this
 unfold bitAt at hi⊢
 rw[m0_get hc] at hi
 split at hi
 ·exact hi
 ·simp at hi
theorem nar_given {p:Pr} (h:checkP p=0):Leq (narM p) p.M:=(nar_leq h).trans m0_leq
theorem has_lt {m:Nat} {x:Int} (h:hasN m x=true):0≤x∧x<64:=by
 unfold hasN at h
 simp only[Bool.and_eq_true,decide_eq_true_eq] at h
 exact⟨h.1,h.2.1⟩
end Go.Proofs.YtnakmganodkliaaDoorAm
set_option maxRecDepth 100000
namespace Go.Proofs.YtnakmganodkliaaDoorAm
open Go
abbrev slQ (L:List (Int×Int)):D:= .sl false false SeT L
abbrev slBd (B:List (List (Int×Int))):D:= .sl false false (.sl SeT) B
theorem con_nn {P:Program} {f:FuncId} {pre:List Row} {t:Ty} {xs:List t.El} {val:D} {post:List (Option Row)} {allocs:List Row} (hne:xs≠ []) (h:Con P f pre [.sl true false t xs] val post allocs):Con P f pre [.sl false false t xs] val post allocs:=by
 refine⟨h.fn,fun w ρ S vs M hargs=>h.run w ρ S vs M ?_⟩
 simp only[RelDs,RelD] at hargs⊢
 obtain⟨u,us',e,⟨A,c,us,e2,h1,h2,h3,h4,h5,h6⟩,hr⟩:=hargs
 refine⟨u,us',e,⟨A,c,us,e2,h1,h2,fun _ hA=> ?_,h4,h5,h6⟩,hr⟩
 have:=h2 hA
 have:0<xs.length:=List.length_pos_iff.2 hne
 omega
def givenF:List (Int×Int)→List Nat→List Nat
 | [],m=>m
 |x::xs,m=>givenF xs (m.set x.1.toNat (m.getD x.1.toNat 0&&&ofN [x.2]))
theorem ofN_one (x:Int):ofN [x]=bitN x:=by
 unfold ofN bitN
 simp only[ofA]
 by_cases h:0≤x∧x<64
 ·rw[if_pos h,if_neg (by omega),Nat.zero_or]
 ·rw[if_neg h,if_pos (by omega)]
theorem given_len:∀(F:List (Int×Int)) (m:List Nat),(givenF F m).length=m.length
 | [],_=>rfl
 |x::F,m=>by simp only[givenF];rw[given_len F];simp
theorem given_small:∀(F:List (Int×Int)) {m:List Nat},Smalls m→Smalls (givenF F m)
 | [],_,h=>h
 |x::F,m,h=>by
  simp only[givenF]
  refine given_small F ?_
  intro y hy
  rcases List.mem_or_eq_of_mem_set hy with h'|h'
  ·exact h y h'
  ·subst h'
   exact and_lt (h.at _)
def hereB (m:List Nat) (x:Int×Int):Bool:=hasN (m.getD x.1.toNat 0) x.2
def openB (m:List Nat) (x:Int×Int):Bool:=m.getD x.1.toNat 0 !=bitN x.2
def oneF:List (Int×Int)→Int×(Int×Int)
 | []=>(2,(0,0))
 |x::xs=>if xs.all (fun y=>y==x) then(1,x) else(0,(0,0))
def unitF (m:List Nat) (l:List (Int×Int)):Int×(Int×Int):=if l.all (hereB m) then oneF (l.filter (openB m)) else(0,(0,0))
def passF:List (List (Int×Int))→List Nat→Int→List Nat×Int
 | [],m,st=>(m,st)
 |l::ls,m,st=>if(unitF m l).1=2 then(m,2) else if(unitF m l).1=1 then passF ls (m.set (unitF m l).2.1.toNat (m.getD (unitF m l).2.1.toNat 0-bitN (unitF m l).2.2)) 1 else passF ls m st
def spreadF (g:Gr) (W:List (List Int)) (B:List (List (Int×Int))):Nat→List Nat→List Nat×Bool
 |0,q=>(q,true)
 |n+1,q=>if narO ⟨g,W,q⟩ then
   (if(passF B (narM ⟨g,W,q⟩) 0).2=2 then((passF B (narM ⟨g,W,q⟩) 0).1,false)
    else if(passF B (narM ⟨g,W,q⟩) 0).2=1 then spreadF g W B n (passF B (narM ⟨g,W,q⟩) 0).1
    else((passF B (narM ⟨g,W,q⟩) 0).1,true))
  else(narM ⟨g,W,q⟩,false)
def spreadG (p:Pr) (F:List (Int×Int)) (B:List (List (Int×Int))):List Nat×Bool:=spreadF p.g p.W B ((givenF F p.M).sum+1) (givenF F p.M)
def spR:Sp:=fun f args rd=>match f,args with
 |139,[m]=>match slC rd (.int .u64) [m] with
  |some M=>some {f:=139,args:=[slU (Nt M)],val:= .own 0 0 (Nt M).length none,allocs:=[.data 22 (.int .u64) (Mi (Nt M))],lent:=refsDs [m]}
  |none=>none
 |122,[.agg [.v (.int _ h),.v (.int _ w),b,r,l,ws,ms],fx]=>withP rd h w b r l ws ms fun p ls=>match slC rd SeT [fx] with
  |some F=>some {f:=122,args:=[p.d,slQ F],val:= .own 0 0 p.M.length none,allocs:=[.data 22 (.int .u64) (Mi (givenF F p.M))],lent:=ls++refsDs [fx]}
  |none=>none
 |126,[m,l]=>match slC rd (.int .u64) [m],slC rd SeT [l] with
  |some M,some L=>some {f:=126,args:=[slU (Nt M),slQ L],val:= .tup [.v (.int .i64 (unitF (Nt M) L).1),.agg [.v (.int .i64 (unitF (Nt M) L).2.1),.v (.int .i64 (unitF (Nt M) L).2.2)]],lent:=refsDs [m,l]}
  |_,_=>none
 |92,[.agg [.v (.int _ h),.v (.int _ w),b,r,l,ws,ms],fx,bd]=>withP rd h w b r l ws ms fun p ls=>match slC rd SeT [fx],slC rd (.sl SeT) [bd] with
  |some F,some B=>some {f:=92,args:=[p.d,slQ F,slBd B],val:= .tup [.own 0 0 (spreadG p F B).1.length none,.v (.bool (spreadG p F B).2)],allocs:=[.data 22 (.int .u64) (Mi (spreadG p F B).1)],lent:=ls++refsDs [fx,bd]}
  |_,_=>none
 |94,[.agg [.v (.int _ h),.v (.int _ w),b,r,l,ws,ms],fx,bd]=>withP rd h w b r l ws ms fun p ls=>match slC rd SeT [fx],slC rd (.sl SeT) [bd] with
  |some F,some B=>some {f:=94,args:=[p.d,slQ F,slBd B],val:= .v (.bool (!(spreadG p F B).2)),lent:=ls++refsDs [fx,bd]}
  |_,_=>none
 |f,args=>spNb f args rd
theorem room22 {n:Nat} (h:n≤17592186044416):roomy Tryd.prog 22 n:=by
 unfold roomy
 rw[show Tryd.prog.bytesOf 22=8 by kernel_rfl]
 omega
theorem room92 {n:Nat} (h:n≤8796093022208):roomy Tryd.prog 92 n:=by
 unfold roomy
 rw[show Tryd.prog.bytesOf 92=16 by kernel_rfl]
 omega
theorem oneF_all (O:List (Int×Int)):oneF O=if O=[] then(2,(0,0)) else if O.all (fun y=>y==O.getD 0 (0,0)) then(1,O.getD 0 (0,0)) else(0,(0,0)):=by
 cases O with
 |nil=>rfl
 |cons x xs=>
  rw[if_neg (by simp)]
  simp only[oneF,List.getD_cons_zero,List.all_cons,beq_self_eq_true,Bool.true_and]
noncomputable def r139:Code:=(Tryd.f139.body).getD .skip
noncomputable def r122:Code:=(Tryd.f122.body).getD .skip
noncomputable def r126:Code:=(Tryd.f126.body).getD .skip
noncomputable def r92:Code:=(Tryd.f92.body).getD .skip
noncomputable def r94:Code:=(Tryd.f94.body).getD .skip
noncomputable def r93:Code:=(Tryd.f93.body).getD .skip
noncomputable def r90:Code:=(Tryd.f90.body).getD .skip
noncomputable def r55:Code:=(Tryd.f55.body).getD .skip
noncomputable def r56:Code:=(Tryd.f56.body).getD .skip
end Go.Proofs.YtnakmganodkliaaDoorAm
set_option maxRecDepth 100000
namespace Go.Proofs.YtnakmganodkliaaDoorAm
open Go
theorem d139t (M:List Nat) (hl:M.length≤17592186044416):Con Tryd.prog 139 [] [.sl true false (.int .u64) (Mi M)] (.own 0 0 M.length none) [] [.data 22 (.int .u64) (Mi M)]:=by
 refine con_vc (how:=[none]) (c:=r139) (K:=(KK r139)) spR (fun _=> []) (fun _=> []) 400 (.fork .stop .stop) (V:=fun G R=>(false=true→R (D.v (Value.slice none 0 0),[],[]))∧(false=false→roomy Tryd.prog 22 (0+(Mi M).length)∧R (D.own 0 0 (0+(Mi M).length) none,[],[Row.data 22 (Ty.int .u64) (List.take 0 (List.drop 0 [])++Mi M)]))) hmG Tryd.func139 (by kernel_rfl) (by kernel_rfl) (fun G R=>by kernel_rfl) ?_
 try dsimp only
 simp only[take_len,List.drop_zero,List.take_length,Mi_getD,Mi_len,Nt_Mi,Int.toNat_natCast,Mi_set,Nat.zero_add,Nat.sub_zero,List.length_set,take_one,takeSn,List.take_zero,List.nil_append,List.length_append,List.length_cons,List.length_nil]
 simp (disch:=omega) only[oo,oop,ne_eq,Ty.dflt,reduceCtorEq]
 repeat' (first|with_reducible refine And.intro ?_ ?_|intro _)
 all_goals first|rfl|omega|assumption|trivial|exact room22 (by omega)|exact room92 (by omega)|(exfalso;simp_all;done)|(exfalso;omega)|skip
theorem d139 (M:List Nat) (hM:M≠ []) (hl:M.length≤17592186044416):Con Tryd.prog 139 [] [slU M] (.own 0 0 M.length none) [] [.data 22 (.int .u64) (Mi M)]:=con_nn (by
 intro e
 apply hM
 have:=congrArg List.length e
 rw[Mi_len] at this
 exact List.length_eq_zero_iff.1 this) (d139t M hl)
def vq41 (F:List (Int×Int)) (i:Int) (Q:List Nat) (G:Nat→St→Prop) (R:D×List (Option Row)×List Row→Prop):Prop:=let yy0:=(F.getD i.toNat ((Ty.int .i64).prod (Ty.int .i64)).dflt);let yy1:=(List.drop 0 [yy0.snd]);(decide (i< (↑F.length:Int))=true→(0:Int)≤i∧i< (↑F.length:Int)∧(0:Int)≤yy0.fst∧yy0.fst< (↑Q.length:Int)∧0+Int.toNat yy0.fst< (Mi Q).length∧Con Tryd.prog 24 [] [D.sl false false (Ty.int .i64) (List.take 1 yy1)] (D.v (Value.int .u64 (↑(ofN (List.take 1 yy1)):Int))) [] []∧List.take 1 yy1=List.take 1 yy1∧(0:Int)≤yy0.fst∧yy0.fst< (↑Q.length:Int)∧0+Int.toNat yy0.fst< (Mi Q).length∧SameK (KK r122 0) (KK r122 0)∧G 0 (stOf 30 [5,11,12,13] [D.own 0 0 Q.length none,D.sl false false ((Ty.int .i64).prod (Ty.int .i64)) F,D.v (Value.int .i64 (↑F.length:Int)),D.v (Value.int .i64 (IntKind.i64.wrap (i+(1:Int))))] [Slot.live (Row.data 22 (Ty.int .u64) ((Mi Q).set (0+Int.toNat yy0.fst) (IntKind.u64.wrap (↑(BitVec.ofInt 64 ((Mi Q).getD (0+Int.toNat yy0.fst) (Ty.int .u64).dflt)&&&BitVec.ofInt 64 (↑(ofN (List.take 1 yy1)):Int)).toNat:Int))))]))∧(decide (i< (↑F.length:Int))=false→R (D.own 0 0 Q.length none,[],[Row.data 22 (Ty.int .u64) (Mi Q)]))
theorem e122 (F:List (Int×Int)) (QE:List Nat) (hFl:F.length≤8796093022208) (hF:∀x∈F,0≤x.1∧x.1<QE.length) (z:Nat):∀(i:Int) (Q:List Nat),0≤i→i+z=F.length→Smalls Q→Q.length=QE.length→givenF (F.drop i.toNat) Q=QE→GetsK Tryd.prog Tryd.f122.results.toList [none] (KK r122) 0 (.own 0 0 QE.length none,[],[.data 22 (.int .u64) (Mi QE)]) 0 (stOf 30 [5,11,12,13] [.own 0 0 Q.length none,slQ F,.v (.int .i64 F.length),.v (.int .i64 i)] [.live (.data 22 (.int .u64) (Mi Q))]):=by
 induction z with
 |zero=>
  intro i Q i0 hi hQ hl he
  rw[List.drop_eq_nil_of_le (by omega)] at he
  have he:Q=QE:=he
  subst he
  refine gets_vc spR (fun _=> [5,11,12,13]) (fun _=> []) 400 (.fork (.hd 0) .stop) (V:=vq41 F i Q) hmG (fun G R=>by kernel_rfl) ?_
  unfold vq41
  try dsimp only
  simp (disch:=omega) only[oo,oop,ne_eq,Ty.dflt,reduceCtorEq]
  repeat' (first|with_reducible refine And.intro ?_ ?_|intro _)
  all_goals first|rfl|omega|assumption|trivial|exact room22 (by omega)|exact room92 (by omega)|(exfalso;simp_all;done)|(exfalso;omega)|skip
 |succ z ih=>
  intro i Q i0 hi hQ hl he
  have hk1:IntKind.i64.wrap (i+1)=i+1:=wrG (by omega) (by omega)
  have hx:=hF _ (getD_in (d:=(0,0)) (k:=i.toNat) (l:=F) (by omega))
  rw[drop_at (xs:=F) (i:=i) (0,0) i0 (by omega)] at he
  obtain⟨x,hxx⟩:∃x,F.getD i.toNat (0,0)=x:=⟨_,rfl⟩
  rw[hxx] at hx he
  simp only[givenF] at he
  have hof:ofN [x.2]<W64:=of_lt _ _ (by decide)
  have e1:=wrap_and (a:=Q.getD x.1.toNat 0) (b:=ofN [x.2]) (hQ.at _) hof
  have hs:Smalls (Q.set x.1.toNat (Q.getD x.1.toNat 0&&&ofN [x.2])):=by
   have:=given_small [x] hQ
   exact this
  have h1:=ih (i+1) _ (by omega) (by omega) hs (by rw[List.length_set];exact hl) he
  rw[List.length_set] at h1
  have c1:=d67 [x.2] (by simp)
  refine gets_vc spR (fun _=> [5,11,12,13]) (fun _=> []) 400 (.fork (.hd 0) .stop) (V:=vq41 F i Q) hmG (fun G R=>by kernel_rfl) ?_
  unfold vq41
  try dsimp only
  simp only[Ty.dflt,hk1,hxx,take_len,List.drop_zero,List.take_length,Mi_getD,Mi_len,Nt_Mi,Int.toNat_natCast,Mi_set,Nat.zero_add,Nat.sub_zero,List.length_set,take_one,takeSn,List.take_zero,List.nil_append,List.length_append,List.length_cons,List.length_nil,e1]
  simp (disch:=omega) only[oo,oop,ne_eq,Ty.dflt,reduceCtorEq]
  repeat' (first|with_reducible refine And.intro ?_ ?_|intro _)
  all_goals first|rfl|omega|assumption|trivial|exact room22 (by omega)|exact room92 (by omega)|(exfalso;simp_all;done)|(exfalso;omega)|skip
theorem d122R (g:Gr) (W:List (List Int)) (M:List Nat) (F:List (Int×Int)) (hM:Smalls M) (hM0:M≠ []) (hMl:M.length≤17592186044416) (hFl:F.length≤8796093022208) (hF:∀x∈F,0≤x.1∧x.1<M.length):Con Tryd.prog 122 [] [.agg [.v (.int .i64 g.h),.v (.int .i64 g.w),.sl false false .bool g.B,.sl false false .bool g.R,.sl false false .bool g.L,slW W,slU M],slQ F] (.own 0 0 M.length none) [] [.data 22 (.int .u64) (Mi (givenF F M))]:=by
 refine con_vc (how:=[none]) (c:=r122) (K:=(KK r122)) spR (fun _=> [5,11,12,13]) (fun _=> []) 400 (.hd 0) (V:=fun G R=>Con Tryd.prog 139 [] [D.sl false false (Ty.int .u64) (Mi (Nt (Mi M)))] (D.own 0 0 (Nt (Mi M)).length none) [] [Row.data 22 (Ty.int .u64) (Mi (Nt (Mi M)))]∧Mi M=Mi (Nt (Mi M))∧SameK (KK r122 0) (KK r122 0)∧G 0 (stOf 30 [5,11,12,13] [D.own 0 0 (Nt (Mi M)).length none,D.sl false false ((Ty.int .i64).prod (Ty.int .i64)) F,D.v (Value.int .i64 (↑F.length:Int)),D.v (Value.int .i64 (0:Int))] [Slot.live (Row.data 22 (Ty.int .u64) (Mi (Nt (Mi M))))])) hmG Tryd.func122 (by kernel_rfl) (by kernel_rfl) (fun G R=>by kernel_rfl) ?_
 try dsimp only
 have c1:=d139 M hM0 hMl
 have hg:=given_len F M
 have hx:=e122 F (givenF F M) hFl (by rw[hg];exact hF) F.length 0 M (by omega) (by omega) hM hg.symm rfl
 rw[hg] at hx
 simp only[Nt_Mi]
 simp (disch:=omega) only[oo,oop,ne_eq,Ty.dflt,reduceCtorEq]
 repeat' (first|with_reducible refine And.intro ?_ ?_|intro _)
 all_goals first|rfl|omega|assumption|trivial|exact room22 (by omega)|exact room92 (by omega)|(exfalso;simp_all;done)|(exfalso;omega)|skip
def vq42 (O:List (Int×Int)) (i:Int) (G:Nat→St→Prop) (R:D×List (Option Row)×List Row→Prop):Prop:=let yy0:=((Ty.int .i64).prod (Ty.int .i64));let yy1:=(Value.int .i64 (0:Int));let yy2:=(!((O.getD (0+i.toNat) yy0.dflt).fst==(O.getD 0 yy0.dflt).fst&&((O.getD (0+i.toNat) yy0.dflt).snd==(O.getD 0 yy0.dflt).snd&&true)));let yy3:=(↑O.length:Int);(decide (i<yy3)=true→(0:Int)≤i∧i<yy3∧0+i.toNat<O.length∧(0:Int)≤(0:Int)∧(0:Int)<yy3∧0<O.length∧(yy2=true→R (D.tup [D.v yy1,D.agg [D.v yy1,D.v yy1]],[],[]))∧(yy2=false→SameK (KK r126 1) (KK r126 1)∧G 1 (stOf 70 [5,6,9] [D.ptr 0 0 0,D.own 1 0 O.length none,D.v (Value.int .i64 (IntKind.i64.wrap (i+(1:Int))))] [Slot.live (Row.box 92 [D.v yy1,D.v yy1]),Slot.live (Row.data 92 yy0 O)])))∧(decide (i<yy3)=false→((yy3==(0:Int))=true→R (D.tup [D.v (Value.int .i64 (2:Int)),D.agg [D.v yy1,D.v yy1]],[],[]))∧((yy3==(0:Int))=false→(0:Int)≤(0:Int)∧(0:Int)<yy3∧0<O.length∧R (D.tup [D.v (Value.int .i64 (1:Int)),D.agg [D.v (Value.int .i64 (O.getD 0 yy0.dflt).fst),D.v (Value.int .i64 (O.getD 0 yy0.dflt).snd)]],[],[])))
theorem e126b (O:List (Int×Int)) (hO:O.length≤8796093022208) (z:Nat):∀(i:Int),0≤i→i+z=O.length→∀r,r=(if O=[] then((2:Int),((0:Int),(0:Int))) else if(O.drop i.toNat).all (fun y=>y==O.getD 0 (0,0)) then(1,O.getD 0 (0,0)) else(0,(0,0)))→GetsK Tryd.prog Tryd.f126.results.toList [none,none] (KK r126) 0 (.tup [.v (.int .i64 r.1),.agg [.v (.int .i64 r.2.1),.v (.int .i64 r.2.2)]],[],[]) 1 (stOf 70 [5,6,9] [.ptr 0 0 0,.own 1 0 O.length none,.v (.int .i64 i)] [.live (.box 92 [.v (.int .i64 0),.v (.int .i64 0)]),.live (.data 92 SeT O)]):=by
 induction z with
 |zero=>
  intro i i0 hi r hr
  rw[List.drop_eq_nil_of_le (by omega),List.all_nil,if_pos rfl] at hr
  refine gets_vc spR (fun k=>if k=0 then [0,1,5,6,7] else [5,6,9]) (fun k=> [⟨6,92,SeT⟩]) 400 (.fork (.fork .stop (.hd 1)) (.fork .stop .stop)) (V:=vq42 O i) hmG (fun G R=>by kernel_rfl) ?_
  unfold vq42
  try dsimp only
  by_cases h:O=[]
  ·subst h
   rw[if_pos rfl] at hr
   subst hr
   simp (disch:=omega) only[oo,oop,ne_eq,Ty.dflt,reduceCtorEq]
   repeat' (first|with_reducible refine And.intro ?_ ?_|intro _)
   all_goals first|rfl|omega|assumption|trivial|exact room22 (by omega)|exact room92 (by omega)|(exfalso;simp_all;done)|(exfalso;omega)|skip
  ·rw[if_neg h] at hr
   subst hr
   have hl:O.length≠0:=fun e=>h (List.length_eq_zero_iff.1 e)
   have e1:((O.length:Int)==0)=false:=by rw[beq_eq_false_iff_ne];omega
   simp only[Ty.dflt,e1]
   simp (disch:=omega) only[oo,oop,ne_eq,Ty.dflt,reduceCtorEq]
   repeat' (first|with_reducible refine And.intro ?_ ?_|intro _)
   all_goals first|rfl|omega|assumption|trivial|exact room22 (by omega)|exact room92 (by omega)|(exfalso;simp_all;done)|(exfalso;omega)|skip
 |succ z ih=>
  intro i i0 hi r hr
  have hk1:IntKind.i64.wrap (i+1)=i+1:=wrG (by omega) (by omega)
  have hO0:O≠ []:=by
   intro e
   rw[e] at hi
   simp at hi
   omega
  rw[if_neg hO0,drop_at (xs:=O) (i:=i) (0,0) i0 (by omega),List.all_cons] at hr
  have h1:=ih (i+1) (by omega) (by omega) _ rfl
  rw[if_neg hO0] at h1
  obtain⟨a,ha⟩:∃a,O.getD i.toNat (0,0)=a:=⟨_,rfl⟩
  obtain⟨b,hb⟩:∃b,O.getD 0 (0,0)=b:=⟨_,rfl⟩
  rw[ha,hb] at hr
  rw[hb] at h1
  refine gets_vc spR (fun k=>if k=0 then [0,1,5,6,7] else [5,6,9]) (fun k=> [⟨6,92,SeT⟩]) 400 (.fork (.fork .stop (.hd 1)) (.fork .stop .stop)) (V:=vq42 O i) hmG (fun G R=>by kernel_rfl) ?_
  unfold vq42
  try dsimp only
  simp only[Ty.dflt,hk1,ha,hb,Nat.zero_add]
  have e:(a.1==b.1&&(a.2==b.2&&true))=(a==b):=by
   rw[Bool.and_true]
   rfl
  rw[e]
  cases hab:(a==b) with
  |false=>
   rw[hab,Bool.false_and,if_neg (by simp)] at hr
   subst hr
   simp (disch:=omega) only[oo,oop,ne_eq,Ty.dflt,reduceCtorEq]
   repeat' (first|with_reducible refine And.intro ?_ ?_|intro _)
   all_goals first|rfl|omega|assumption|trivial|exact room22 (by omega)|exact room92 (by omega)|(exfalso;simp_all;done)|(exfalso;omega)|skip
  |true=>
   rw[hab,Bool.true_and] at hr
   rw[←hr] at h1
   simp (disch:=omega) only[oo,oop,ne_eq,Ty.dflt,reduceCtorEq]
   repeat' (first|with_reducible refine And.intro ?_ ?_|intro _)
   all_goals first|rfl|omega|assumption|trivial|exact room22 (by omega)|exact room92 (by omega)|(exfalso;simp_all;done)|(exfalso;omega)|skip
def vq43 (m:List Nat) (L:List (Int×Int)) (i:Int) (O:List (Int×Int)) (G:Nat→St→Prop) (R:D×List (Option Row)×List Row→Prop):Prop:=let yy0:=(L.getD i.toNat ((Ty.int .i64).prod (Ty.int .i64)).dflt);let yy1:=((Mi m).getD (Int.toNat yy0.fst) (Ty.int .u64).dflt);let yy2:=(Value.int .i64 (0:Int));let yy3:=((Ty.int .i64).prod (Ty.int .i64));let yy4:=((Mi m).getD (Int.toNat yy0.fst) (Ty.int .u64).dflt !=(↑(bitN yy0.snd):Int));let yy5:=(↑L.length:Int);(decide (i<yy5)=true→(0:Int)≤i∧i<yy5∧(0:Int)≤yy0.fst∧yy0.fst< (↑(Mi m).length:Int)∧(0:Int)≤i∧i<yy5∧Con Tryd.prog 33 [] [D.v (Value.int .u64 yy1),D.v (Value.int .i64 yy0.snd)] (D.v (Value.bool (hasN (Int.toNat yy1) yy0.snd))) [] []∧Value.int .u64 yy1=Value.int .u64 yy1∧Value.int .i64 yy0.snd=Value.int .i64 yy0.snd∧((!hasN (Int.toNat yy1) yy0.snd)=true→R (D.tup [D.v yy2,D.agg [D.v yy2,D.v yy2]],[],[]))∧((!hasN (Int.toNat yy1) yy0.snd)=false→(0:Int)≤i∧i<yy5∧Con Tryd.prog 74 [] [D.v (Value.int .i64 yy0.snd)] (D.v (Value.int .u64 (↑(bitN yy0.snd):Int))) [] []∧Value.int .i64 yy0.snd=Value.int .i64 yy0.snd∧(yy4=true→(0:Int)≤i∧i<yy5∧roomy Tryd.prog 92 (O.length+1)∧SameK (KK r126 0) (KK r126 0)∧G 0 (stOf 70 [0,1,5,6,7] [D.sl false false (Ty.int .u64) (Mi m),D.sl false false yy3 L,D.ptr 0 0 0,D.own 1 0 (O.length+1) none,D.v (Value.int .i64 (IntKind.i64.wrap (i+(1:Int))))] [Slot.live (Row.box 92 [D.v yy2,D.v yy2]),Slot.live (Row.data 92 yy3 (List.take O.length (List.drop 0 O)++List.take 1 (List.drop 0 [(yy0.fst,yy0.snd)])))]))∧(yy4=false→SameK (KK r126 0) (KK r126 0)∧G 0 (stOf 70 [0,1,5,6,7] [D.sl false false (Ty.int .u64) (Mi m),D.sl false false yy3 L,D.ptr 0 0 0,D.own 1 0 O.length none,D.v (Value.int .i64 (IntKind.i64.wrap (i+(1:Int))))] [Slot.live (Row.box 92 [D.v yy2,D.v yy2]),Slot.live (Row.data 92 yy3 O)]))))∧(decide (i<yy5)=false→SameK (KK r126 1) (KK r126 1)∧G 1 (stOf 70 [5,6,9] [D.ptr 0 0 0,D.own 1 0 O.length none,D.v yy2] [Slot.live (Row.box 92 [D.v yy2,D.v yy2]),Slot.live (Row.data 92 yy3 O)]))
theorem e126a (m:List Nat) (L:List (Int×Int)) (hm:Smalls m) (hLl:L.length≤8796093022208) (hL:∀x∈L,0≤x.1∧x.1<m.length) (z:Nat):∀(i:Int) (O:List (Int×Int)),0≤i→i+z=L.length→O.length≤i→∀r,r=(if(L.drop i.toNat).all (hereB m) then oneF (O++(L.drop i.toNat).filter (openB m)) else(0,(0,0)))→GetsK Tryd.prog Tryd.f126.results.toList [none,none] (KK r126) 0 (.tup [.v (.int .i64 r.1),.agg [.v (.int .i64 r.2.1),.v (.int .i64 r.2.2)]],[],[]) 0 (stOf 70 [0,1,5,6,7] [slU m,slQ L,.ptr 0 0 0,.own 1 0 O.length none,.v (.int .i64 i)] [.live (.box 92 [.v (.int .i64 0),.v (.int .i64 0)]),.live (.data 92 SeT O)]):=by
 induction z with
 |zero=>
  intro i O i0 hi hO r hr
  rw[List.drop_eq_nil_of_le (by omega),List.all_nil,if_pos rfl,List.filter_nil,List.append_nil,oneF_all] at hr
  have h1:=e126b O (by omega) O.length 0 (by omega) (by omega) r (by rw[hr,show(0:Int).toNat=0 from rfl,List.drop_zero])
  refine gets_vc spR (fun k=>if k=0 then [0,1,5,6,7] else [5,6,9]) (fun k=> [⟨6,92,SeT⟩]) 400 (.fork (.fork .stop (.fork (.hd 0) (.hd 0))) (.hd 1)) (V:=vq43 m L i O) hmG (fun G R=>by kernel_rfl) ?_
  unfold vq43
  try dsimp only
  simp (disch:=omega) only[oo,oop,ne_eq,Ty.dflt,reduceCtorEq]
  repeat' (first|with_reducible refine And.intro ?_ ?_|intro _)
  all_goals first|rfl|omega|assumption|trivial|exact room22 (by omega)|exact room92 (by omega)|(exfalso;simp_all;done)|(exfalso;omega)|skip
 |succ z ih=>
  intro i O i0 hi hO r hr
  have hk1:IntKind.i64.wrap (i+1)=i+1:=wrG (by omega) (by omega)
  have hx:=hL _ (getD_in (d:=(0,0)) (k:=i.toNat) (l:=L) (by omega))
  rw[drop_at (xs:=L) (i:=i) (0,0) i0 (by omega),List.all_cons,List.filter_cons] at hr
  obtain⟨x,hxx⟩:∃x,L.getD i.toNat (0,0)=x:=⟨_,rfl⟩
  rw[hxx] at hx hr
  have c1:=d111 (m.getD x.1.toNat 0) x.2 (hm.at _)
  have c2:=d130 x.2
  refine gets_vc spR (fun k=>if k=0 then [0,1,5,6,7] else [5,6,9]) (fun k=> [⟨6,92,SeT⟩]) 400 (.fork (.fork .stop (.fork (.hd 0) (.hd 0))) (.hd 1)) (V:=vq43 m L i O) hmG (fun G R=>by kernel_rfl) ?_
  unfold vq43
  try dsimp only
  simp only[Ty.dflt,hk1,hxx,take_len,List.drop_zero,List.take_length,Mi_getD,Mi_len,Nt_Mi,Int.toNat_natCast,Mi_set,Nat.zero_add,Nat.sub_zero,List.length_set,take_one,takeSn,List.take_zero,List.nil_append,List.length_append,List.length_cons,List.length_nil]
  cases hh:hasN (m.getD x.1.toNat 0) x.2 with
  |false=>
   have hr:r=(0,(0,0)):=by
    rw[hr,show hereB m x=false from hh,Bool.false_and,if_neg (by simp)]
   subst hr
   rw[hh] at c1
   simp (disch:=omega) only[oo,oop,ne_eq,Ty.dflt,reduceCtorEq]
   repeat' (first|with_reducible refine And.intro ?_ ?_|intro _)
   all_goals first|rfl|omega|assumption|trivial|exact room22 (by omega)|exact room92 (by omega)|(exfalso;simp_all;done)|(exfalso;omega)|skip
  |true=>
   rw[hh] at c1
   rw[show hereB m x=true from hh,Bool.true_and] at hr
   by_cases ho:m.getD x.1.toNat 0=bitN x.2
   ·have hob:openB m x=false:=by simp only[openB,ho,bne_self_eq_false]
    have e1:(((m.getD x.1.toNat 0:Nat):Int) !=((bitN x.2:Nat):Int))=false:=by rw[ho];simp
    simp only[hob,Bool.false_eq_true,if_false] at hr
    have h1:=ih (i+1) O (by omega) (by omega) (by omega) r hr
    simp only[e1]
    simp (disch:=omega) only[oo,oop,ne_eq,Ty.dflt,reduceCtorEq]
    repeat' (first|with_reducible refine And.intro ?_ ?_|intro _)
    all_goals first|rfl|omega|assumption|trivial|exact room22 (by omega)|exact room92 (by omega)|(exfalso;simp_all;done)|(exfalso;omega)|skip
   ·have hob:openB m x=true:=by simp only[openB,bne_iff_ne,ne_eq];exact ho
    have e1:(((m.getD x.1.toNat 0:Nat):Int) !=((bitN x.2:Nat):Int))=true:=by rw[bne_iff_ne];omega
    rw[hob,if_pos rfl,List.append_cons] at hr
    have h1:=ih (i+1) (O++[x]) (by omega) (by omega) (by simp;omega) r hr
    rw[List.length_append,List.length_cons,List.length_nil] at h1
    simp only[e1]
    rw[show((x.1,x.2):Int×Int)=x from rfl]
    simp (disch:=omega) only[oo,oop,ne_eq,Ty.dflt,reduceCtorEq]
    repeat' (first|with_reducible refine And.intro ?_ ?_|intro _)
    all_goals first|rfl|omega|assumption|trivial|exact room22 (by omega)|exact room92 (by omega)|(exfalso;simp_all;done)|(exfalso;omega)|skip
theorem d126R (m:List Nat) (L:List (Int×Int)) (hm:Smalls m) (hLl:L.length≤8796093022208) (hL:∀x∈L,0≤x.1∧x.1<m.length):Con Tryd.prog 126 [] [slU m,slQ L] (.tup [.v (.int .i64 (unitF m L).1),.agg [.v (.int .i64 (unitF m L).2.1),.v (.int .i64 (unitF m L).2.2)]]) [] []:=by
 refine con_vc (how:=[none,none]) (c:=r126) (K:=(KK r126)) spR (fun k=>if k=0 then [0,1,5,6,7] else [5,6,9]) (fun k=> [⟨6,92,SeT⟩]) 400 (.hd 0) (V:=fun G R=>SameK (KK r126 0) (KK r126 0)∧G 0 (stOf 70 [0,1,5,6,7] [D.sl false false (Ty.int .u64) (Mi m),D.sl false false ((Ty.int .i64).prod (Ty.int .i64)) L,D.ptr 0 0 0,D.own 1 0 0 none,D.v (Value.int .i64 (0:Int))] [Slot.live (Row.box 92 [D.v (Value.int .i64 (0:Int)),D.v (Value.int .i64 (0:Int))]),Slot.live (Row.data 92 ((Ty.int .i64).prod (Ty.int .i64)) [])])) hmG Tryd.func126 (by kernel_rfl) (by kernel_rfl) (fun G R=>by kernel_rfl) ?_
 try dsimp only
 have hx:=e126a m L hm hLl hL L.length 0 [] (by omega) (by omega) (by simp) (unitF m L) (by rw[show(0:Int).toNat=0 from rfl,List.drop_zero,List.nil_append];rfl)
 simp (disch:=omega) only[oo,oop,ne_eq,Ty.dflt,reduceCtorEq]
 repeat' (first|with_reducible refine And.intro ?_ ?_|intro _)
 all_goals first|rfl|omega|assumption|trivial|exact room22 (by omega)|exact room92 (by omega)|(exfalso;simp_all;done)|(exfalso;omega)|skip
end Go.Proofs.YtnakmganodkliaaDoorAm
namespace Go.Proofs.YtnakmganodkliaaDoorAm
open Go
theorem andn_sub {a b:Nat} (ha:a<W64) (hb:b<W64) (h:b&&&a=b):IntKind.u64.wrap ((BitVec.ofInt 64 (a:Int)&&& ~~~BitVec.ofInt 64 (b:Int)).toNat:Int)=((a-b:Nat):Int):=by
 have hle:b≤a:=by rw[←h];exact Nat.and_le_right
 have e:(BitVec.ofNat 64 a&&& ~~~BitVec.ofNat 64 b)=BitVec.ofNat 64 a-BitVec.ofNat 64 b:=by
  have hd:(BitVec.ofNat 64 a&&& ~~~BitVec.ofNat 64 b)&&&BitVec.ofNat 64 b=0#64:=by
   apply BitVec.eq_of_getLsbD_eq
   intro i hi
   simp only[BitVec.getLsbD_and,BitVec.getLsbD_not,BitVec.getLsbD_ofNat,BitVec.getLsbD_zero,hi,decide_true,Bool.true_and]
   cases a.testBit i<;>cases b.testBit i<;>simp
  have hor:(BitVec.ofNat 64 a&&& ~~~BitVec.ofNat 64 b)|||BitVec.ofNat 64 b=BitVec.ofNat 64 a:=by
   apply BitVec.eq_of_getLsbD_eq
   intro i hi
   have h2:=congrArg (fun n:Nat=>n.testBit i) h
   simp only[Nat.testBit_and] at h2
   simp only[BitVec.getLsbD_or,BitVec.getLsbD_and,BitVec.getLsbD_not,BitVec.getLsbD_ofNat,hi,decide_true,Bool.true_and]
   revert h2
   cases a.testBit i<;>cases b.testBit i<;>simp
  have hadd:(BitVec.ofNat 64 a&&& ~~~BitVec.ofNat 64 b)+BitVec.ofNat 64 b=BitVec.ofNat 64 a:=by
   rw[BitVec.add_eq_or_of_and_eq_zero _ _ hd,hor]
  rw[←BitVec.add_sub_cancel (BitVec.ofNat 64 a&&& ~~~BitVec.ofNat 64 b) (BitVec.ofNat 64 b),hadd]
 rw[BitVec.ofInt_natCast,BitVec.ofInt_natCast,e,BitVec.toNat_sub,BitVec.toNat_ofNat,BitVec.toNat_ofNat,Nat.mod_eq_of_lt ha,Nat.mod_eq_of_lt hb]
 have e2:(2^64-b+a)%2^64=a-b:=by
  have:(2^64-b+a)=2^64+(a-b):=by
   have:b<2^64:=hb
   omega
  rw[this,Nat.add_mod_left,Nat.mod_eq_of_lt]
  have:a<2^64:=ha
  omega
 rw[e2]
 exact wrU' (by omega)
theorem has_sub {v:Nat} {y:Int} (h:hasN v y=true):bitN y&&&v=bitN y∧0<bitN y∧bitN y≤v∧bitN y<W64:=by
 have h1:=has_lt h
 have e:bitN y=2^y.toNat:=by unfold bitN;rw[if_neg (by omega)]
 have hb:v.testBit y.toNat=true:=by
  unfold hasN at h
  simp only[Bool.and_eq_true,decide_eq_true_eq] at h
  exact h.2.2
 have ha:bitN y&&&v=bitN y:=by
  rw[e]
  apply Nat.eq_of_testBit_eq
  intro i
  rw[Nat.testBit_and,Nat.testBit_two_pow]
  by_cases hi:y.toNat=i
  ·subst hi;rw[hb];simp
  ·simp[hi]
 refine⟨ha,by rw[e];exact Nat.two_pow_pos _,?_,by rw[e];exact u64_mask (by omega)⟩
 rw[←ha]
 exact Nat.and_le_right
def restU (m:List Nat) (op:Int) (a:Int×Int) (xs:List (Int×Int)):Int×(Int×Int):=
 if xs.all (hereB m) then(if op=0 then oneF (xs.filter (openB m)) else if(xs.filter (openB m)).all (fun y=>y==a) then(1,a) else(0,(0,0))) else(0,(0,0))
theorem restU_nil0 {m:List Nat} {a:Int×Int}:restU m 0 a []=(2,(0,0)):=rfl
theorem restU_nil1 {m:List Nat} {a:Int×Int}:restU m 1 a []=(1,a):=rfl
theorem restU_no {m:List Nat} {op:Int} {a x:Int×Int} {xs:List (Int×Int)} (h:hereB m x=false):restU m op a (x::xs)=(0,(0,0)):=by
 unfold restU
 rw[List.all_cons,h,Bool.false_and,if_neg (by simp)]
theorem restU_shut {m:List Nat} {op:Int} {a x:Int×Int} {xs:List (Int×Int)} (h:hereB m x=true) (ho:openB m x=false):restU m op a (x::xs)=restU m op a xs:=by
 unfold restU
 rw[List.all_cons,h,Bool.true_and,List.filter_cons]
 simp only[ho,Bool.false_eq_true,if_false]
theorem restU_first {m:List Nat} {a x:Int×Int} {xs:List (Int×Int)} (h:hereB m x=true) (ho:openB m x=true):restU m 0 a (x::xs)=restU m 1 x xs:=by
 unfold restU
 rw[List.all_cons,h,Bool.true_and,List.filter_cons]
 simp only[ho,if_true,eq_self,oneF,show((1:Int)=0)=False from by simp,if_false,Int.reduceEq]
theorem restU_same {m:List Nat} {a x:Int×Int} {xs:List (Int×Int)} (h:hereB m x=true) (ho:openB m x=true) (e:a=x):restU m 1 a (x::xs)=restU m 1 a xs:=by
 subst e
 unfold restU
 rw[List.all_cons,h,Bool.true_and,List.filter_cons]
 simp only[ho,if_true,show((1:Int)=0)=False from by simp,if_false,List.all_cons,beq_self_eq_true,Bool.true_and]
theorem restU_diff {m:List Nat} {a x:Int×Int} {xs:List (Int×Int)} (h:hereB m x=true) (ho:openB m x=true) (e:a≠x):restU m 1 a (x::xs)=(0,(0,0)):=by
 have hx:(x==a)=false:=by rw[beq_eq_false_iff_ne];exact fun q=>e q.symm
 unfold restU
 rw[List.all_cons,h,Bool.true_and,List.filter_cons]
 simp only[ho,if_true,show((1:Int)=0)=False from by simp,if_false,List.all_cons,hx,Bool.false_and,Bool.false_eq_true,ite_self]
theorem unit_one {m:List Nat} {l:List (Int×Int)} (h:(unitF m l).1=1):(unitF m l).2∈l∧hereB m (unitF m l).2=true:=by
 unfold unitF at h⊢
 split at h
 ·rename_i ha
  rw[if_pos ha]
  rw[List.all_eq_true] at ha
  cases hf:l.filter (openB m) with
  |nil=>rw[hf] at h;exact absurd h (by decide)
  |cons x xs=>
   rw[hf] at h
   have hx:x∈l:=by
    have:x∈l.filter (openB m):=by rw[hf];exact List.mem_cons_self
    exact(List.mem_filter.1 this).1
   simp only[oneF] at h⊢
   split at h
   ·rename_i hh
    rw[if_pos hh]
    exact⟨hx,ha x hx⟩
   ·exact absurd h (by decide)
 ·exact absurd h (by decide)
def letgo (m:List Nat) (x:Int×Int):List Nat:=m.set x.1.toNat (m.getD x.1.toNat 0-bitN x.2)
theorem letgo_len (m:List Nat) (x:Int×Int):(letgo m x).length=m.length:=by unfold letgo;simp
theorem letgo_at (m:List Nat) (x:Int×Int) (c:Nat):(letgo m x).getD c 0≤m.getD c 0:=by
 unfold letgo
 rw[getD_set_nat]
 split
 ·rename_i h
  rw[←h.1]
  omega
 ·omega
theorem letgo_small {m:List Nat} (hm:Smalls m) (x:Int×Int):Smalls (letgo m x):=by
 intro y hy
 obtain⟨j,hj,e⟩:=List.getElem_of_mem hy
 have h1:(letgo m x).getD j 0=y:=by rw[List.getD_eq_getElem?_getD,List.getElem?_eq_getElem hj,e];rfl
 rw[←h1]
 exact Nat.lt_of_le_of_lt (letgo_at m x j) (hm.at j)
theorem letgo_sum {m:List Nat} {x:Int×Int} (hx:x.1.toNat<m.length) (h:hereB m x=true):(letgo m x).sum<m.sum:=by
 refine sum_lt (letgo_len m x) (letgo_at m x) fun e=> ?_
 have h1:=congrArg (fun l=>l.getD x.1.toNat 0) e
 simp only[letgo] at h1
 rw[getD_set_nat,if_pos ⟨rfl,hx⟩] at h1
 have h2:=has_sub h
 omega
theorem pass_cons (l:List (Int×Int)) (ls:List (List (Int×Int))) (m:List Nat) (st:Int):passF (l::ls) m st=if(unitF m l).1=2 then(m,2) else if(unitF m l).1=1 then passF ls (letgo m (unitF m l).2) 1 else passF ls m st:=rfl
theorem pass_facts (n:Nat):∀(B:List (List (Int×Int))) (m:List Nat) (st:Int),(∀l∈B,∀x∈l,0≤x.1∧x.1<n)→m.length=n→Smalls m→
  (passF B m st).1.length=n∧Smalls (passF B m st).1∧(passF B m st).1.sum≤m.sum∧(st=0→(passF B m st).2=1→(passF B m st).1.sum<m.sum)
 | [],m,st,_,hl,hm=>⟨hl,hm,Nat.le_refl _,fun h0 h1=>by simp only[passF] at h1;omega⟩
 |l::ls,m,st,hB,hl,hm=>by
  rw[pass_cons]
  by_cases h2:(unitF m l).1=2
  ·rw[if_pos h2]
   exact⟨hl,hm,Nat.le_refl _,fun _ h=>absurd h (by simp)⟩
  ·rw[if_neg h2]
   have hB':=fun l' (h:l'∈ls)=>hB l' (List.mem_cons_of_mem l h)
   by_cases h1:(unitF m l).1=1
   ·rw[if_pos h1]
    obtain⟨u1,u2⟩:=unit_one h1
    have hr:=hB l List.mem_cons_self _ u1
    have hs:=letgo_sum (m:=m) (x:=(unitF m l).2) (by omega) u2
    obtain⟨a,b,c,d⟩:=pass_facts n ls (letgo m (unitF m l).2) 1 hB' (by rw[letgo_len];exact hl) (letgo_small hm _)
    exact⟨a,b,by omega,fun _ _=>by omega⟩
   ·rw[if_neg h1]
    exact pass_facts n ls m st hB' hl hm
end Go.Proofs.YtnakmganodkliaaDoorAm
set_option maxRecDepth 100000
namespace Go.Proofs.YtnakmganodkliaaDoorAm
open Go
def vq44 (g:Gr) (W:List (List Int)) (B:List (List (Int×Int))) (q:List Nat) (m:List Nat) (ws:List (List Int)) (ch:Bool) (i:Int) (l:List (Int×Int)) (k:Int) (a:Int×Int) (G:Nat→St→Prop) (R:D×List (Option Row)×List Row→Prop):Prop:=let yy0:=((Ty.int .i64).prod (Ty.int .i64));let yy1:=(stOf 105 [2,8,9,11,34,35,36] [D.sl false false yy0.sl B,D.ptr 0 0 0,D.ptr 1 0 0,D.v (Value.bool ch),D.sl false false yy0.sl B,D.v (Value.int .i64 (↑B.length:Int)),D.v (Value.int .i64 (IntKind.i64.wrap (i+(1:Int))))] [Slot.live (Row.box 73 [D.v (Value.int .i64 g.h),D.v (Value.int .i64 g.w),D.sl false false Ty.bool g.B,D.sl false false Ty.bool g.R,D.sl false false Ty.bool g.L,D.sl false false (Ty.int .i64).sl W,D.own 2 0 q.length none]),Slot.live (Row.box 151 [D.own 3 0 m.length none,D.own 4 0 ws.length none,D.v (Value.bool true)]),Slot.live (Row.data 22 (Ty.int .u64) (Mi q)),Slot.live (Row.data 22 (Ty.int .u64) (Mi m)),Slot.live (Row.nest (NK.mk 27 (Ty.int .i64).sl 0 3 (Ty.int .i64)) ws none)]);let yy2:=(stOf 105 [2,8,9,11,34,35,36] [D.sl false false yy0.sl B,D.ptr 0 0 0,D.ptr 1 0 0,D.v (Value.bool true),D.sl false false yy0.sl B,D.v (Value.int .i64 (↑B.length:Int)),D.v (Value.int .i64 (IntKind.i64.wrap (i+(1:Int))))] [Slot.live (Row.box 73 [D.v (Value.int .i64 g.h),D.v (Value.int .i64 g.w),D.sl false false Ty.bool g.B,D.sl false false Ty.bool g.R,D.sl false false Ty.bool g.L,D.sl false false (Ty.int .i64).sl W,D.own 2 0 q.length none]),Slot.live (Row.box 151 [D.own 3 0 m.length none,D.own 4 0 ws.length none,D.v (Value.bool true)]),Slot.live (Row.data 22 (Ty.int .u64) (Mi q)),Slot.live (Row.data 22 (Ty.int .u64) ((Mi m).set (0+a.fst.toNat) (IntKind.u64.wrap (↑(BitVec.ofInt 64 ((Mi m).getD (0+a.fst.toNat) (Ty.int .u64).dflt)&&& ~~~BitVec.ofInt 64 (↑(ofN (List.take 1 (List.drop 0 [a.snd]))):Int)).toNat:Int)))),Slot.live (Row.nest (NK.mk 27 (Ty.int .i64).sl 0 3 (Ty.int .i64)) ws none)]);let yy3:=(decide (IntKind.i64.wrap ((0:Int)+(1:Int))>(1:Int))=false→SameK (KK r92 1) (KK r92 1)∧G 1 (stOf 105 [2,8,9,11,14,15,34,35,36,41,42,43] [D.sl false false yy0.sl B,D.ptr 0 0 0,D.ptr 1 0 0,D.v (Value.bool ch),D.v (Value.int .i64 (IntKind.i64.wrap ((0:Int)+(1:Int)))),D.ptr 2 0 0,D.sl false false yy0.sl B,D.v (Value.int .i64 (↑B.length:Int)),D.v (Value.int .i64 i),D.sl false false yy0 l,D.v (Value.int .i64 (↑l.length:Int)),D.v (Value.int .i64 (IntKind.i64.wrap (k+(1:Int))))] [Slot.live (Row.box 73 [D.v (Value.int .i64 g.h),D.v (Value.int .i64 g.w),D.sl false false Ty.bool g.B,D.sl false false Ty.bool g.R,D.sl false false Ty.bool g.L,D.sl false false (Ty.int .i64).sl W,D.own 3 0 q.length none]),Slot.live (Row.box 151 [D.own 4 0 m.length none,D.own 5 0 ws.length none,D.v (Value.bool true)]),Slot.live (Row.box 92 [D.v (Value.int .i64 (l.getD k.toNat yy0.dflt).fst),D.v (Value.int .i64 (l.getD k.toNat yy0.dflt).snd)]),Slot.live (Row.data 22 (Ty.int .u64) (Mi q)),Slot.live (Row.data 22 (Ty.int .u64) (Mi m)),Slot.live (Row.nest (NK.mk 27 (Ty.int .i64).sl 0 3 (Ty.int .i64)) ws none)]));let yy4:=(l.getD k.toNat yy0.dflt);let yy5:=(stOf 105 [2,8,9,11,14,15,34,35,36,41,42,43] [D.sl false false yy0.sl B,D.ptr 0 0 0,D.ptr 1 0 0,D.v (Value.bool ch),D.v (Value.int .i64 (0:Int)),D.ptr 2 0 0,D.sl false false yy0.sl B,D.v (Value.int .i64 (↑B.length:Int)),D.v (Value.int .i64 i),D.sl false false yy0 l,D.v (Value.int .i64 (↑l.length:Int)),D.v (Value.int .i64 (IntKind.i64.wrap (k+(1:Int))))] [Slot.live (Row.box 73 [D.v (Value.int .i64 g.h),D.v (Value.int .i64 g.w),D.sl false false Ty.bool g.B,D.sl false false Ty.bool g.R,D.sl false false Ty.bool g.L,D.sl false false (Ty.int .i64).sl W,D.own 3 0 q.length none]),Slot.live (Row.box 151 [D.own 4 0 m.length none,D.own 5 0 ws.length none,D.v (Value.bool true)]),Slot.live (Row.box 92 [D.v (Value.int .i64 a.fst),D.v (Value.int .i64 a.snd)]),Slot.live (Row.data 22 (Ty.int .u64) (Mi q)),Slot.live (Row.data 22 (Ty.int .u64) (Mi m)),Slot.live (Row.nest (NK.mk 27 (Ty.int .i64).sl 0 3 (Ty.int .i64)) ws none)]);let yy6:=(stOf 105 [2,8,9,11,34,35,36] [D.sl false false yy0.sl B,D.ptr 0 0 0,D.ptr 1 0 0,D.v (Value.bool true),D.sl false false yy0.sl B,D.v (Value.int .i64 (↑B.length:Int)),D.v (Value.int .i64 (IntKind.i64.wrap (i+(1:Int))))] [Slot.live (Row.box 73 [D.v (Value.int .i64 g.h),D.v (Value.int .i64 g.w),D.sl false false Ty.bool g.B,D.sl false false Ty.bool g.R,D.sl false false Ty.bool g.L,D.sl false false (Ty.int .i64).sl W,D.own 2 0 q.length none]),Slot.live (Row.box 151 [D.own 3 0 m.length none,D.own 4 0 ws.length none,D.v (Value.bool true)]),Slot.live (Row.data 22 (Ty.int .u64) (Mi q)),Slot.live (Row.data 22 (Ty.int .u64) ((Mi m).set (0+Int.toNat yy4.fst) (IntKind.u64.wrap (↑(BitVec.ofInt 64 ((Mi m).getD (0+Int.toNat yy4.fst) (Ty.int .u64).dflt)&&& ~~~BitVec.ofInt 64 (↑(ofN (List.take 1 (List.drop 0 [yy4.snd]))):Int)).toNat:Int)))),Slot.live (Row.nest (NK.mk 27 (Ty.int .i64).sl 0 3 (Ty.int .i64)) ws none)]);let yy7:=((Mi m).getD (0+Int.toNat yy4.fst) (Ty.int .u64).dflt);let yy8:=(List.drop 0 [yy4.snd]);let yy9:=(List.drop 0 [a.snd]);(decide (k< (↑l.length:Int))=true→(0:Int)≤k∧k< (↑l.length:Int)∧(0:Int)≤yy4.fst∧yy4.fst< (↑m.length:Int)∧0+Int.toNat yy4.fst< (Mi m).length∧Con Tryd.prog 26 [] [D.v (Value.int .u64 yy7),D.v (Value.int .i64 yy4.snd)] (D.v (Value.bool (hasN (Int.toNat yy7) yy4.snd))) [] []∧Value.int .u64 yy7=Value.int .u64 yy7∧Value.int .i64 yy4.snd=Value.int .i64 yy4.snd∧((!hasN (Int.toNat yy7) yy4.snd)=true→(decide ((2:Int)>(1:Int))=true→(((2:Int)==(0:Int))=true→R (D.tup [D.own 0 0 m.length none,D.v (Value.bool false)],[],[Row.data 22 (Ty.int .u64) (Mi m)]))∧(((2:Int)==(0:Int))=false→(((2:Int)==(1:Int))=true→(0:Int)≤a.fst∧a.fst< (↑m.length:Int)∧0+a.fst.toNat< (Mi m).length∧Con Tryd.prog 24 [] [D.sl false false (Ty.int .i64) (List.take 1 yy9)] (D.v (Value.int .u64 (↑(ofN (List.take 1 yy9)):Int))) [] []∧List.take 1 yy9=List.take 1 yy9∧(0:Int)≤a.fst∧a.fst< (↑m.length:Int)∧0+a.fst.toNat< (Mi m).length∧SameK (KK r92 0) (KK r92 0)∧G 0 yy2)∧(((2:Int)==(1:Int))=false→SameK (KK r92 0) (KK r92 0)∧G 0 yy1)))∧(decide ((2:Int)>(1:Int))=false→SameK (KK r92 1) (KK r92 1)∧G 1 (stOf 105 [2,8,9,11,14,15,34,35,36,41,42,43] [D.sl false false yy0.sl B,D.ptr 0 0 0,D.ptr 1 0 0,D.v (Value.bool ch),D.v (Value.int .i64 (2:Int)),D.ptr 2 0 0,D.sl false false yy0.sl B,D.v (Value.int .i64 (↑B.length:Int)),D.v (Value.int .i64 i),D.sl false false yy0 l,D.v (Value.int .i64 (↑l.length:Int)),D.v (Value.int .i64 (IntKind.i64.wrap (k+(1:Int))))] [Slot.live (Row.box 73 [D.v (Value.int .i64 g.h),D.v (Value.int .i64 g.w),D.sl false false Ty.bool g.B,D.sl false false Ty.bool g.R,D.sl false false Ty.bool g.L,D.sl false false (Ty.int .i64).sl W,D.own 3 0 q.length none]),Slot.live (Row.box 151 [D.own 4 0 m.length none,D.own 5 0 ws.length none,D.v (Value.bool true)]),Slot.live (Row.box 92 [D.v (Value.int .i64 a.fst),D.v (Value.int .i64 a.snd)]),Slot.live (Row.data 22 (Ty.int .u64) (Mi q)),Slot.live (Row.data 22 (Ty.int .u64) (Mi m)),Slot.live (Row.nest (NK.mk 27 (Ty.int .i64).sl 0 3 (Ty.int .i64)) ws none)])))∧((!hasN (Int.toNat yy7) yy4.snd)=false→Con Tryd.prog 24 [] [D.sl false false (Ty.int .i64) (List.take 1 yy8)] (D.v (Value.int .u64 (↑(ofN (List.take 1 yy8)):Int))) [] []∧List.take 1 yy8=List.take 1 yy8∧(((Mi m).getD (0+Int.toNat yy4.fst) (Ty.int .u64).dflt !=(↑(ofN (List.take 1 yy8)):Int))=true→(((0:Int)==(1:Int))=true→((a.fst==yy4.fst&&(a.snd==yy4.snd&&true))=true→SameK (KK r92 1) (KK r92 1)∧G 1 yy5)∧((a.fst==yy4.fst&&(a.snd==yy4.snd&&true))=false→(decide (IntKind.i64.wrap ((0:Int)+(1:Int))>(1:Int))=true→((IntKind.i64.wrap ((0:Int)+(1:Int))==(0:Int))=true→R (D.tup [D.own 0 0 m.length none,D.v (Value.bool false)],[],[Row.data 22 (Ty.int .u64) (Mi m)]))∧((IntKind.i64.wrap ((0:Int)+(1:Int))==(0:Int))=false→((IntKind.i64.wrap ((0:Int)+(1:Int))==(1:Int))=true→(0:Int)≤yy4.fst∧yy4.fst< (↑m.length:Int)∧0+Int.toNat yy4.fst< (Mi m).length∧Con Tryd.prog 24 [] [D.sl false false (Ty.int .i64) (List.take 1 yy8)] (D.v (Value.int .u64 (↑(ofN (List.take 1 yy8)):Int))) [] []∧List.take 1 yy8=List.take 1 yy8∧(0:Int)≤yy4.fst∧yy4.fst< (↑m.length:Int)∧0+Int.toNat yy4.fst< (Mi m).length∧SameK (KK r92 0) (KK r92 0)∧G 0 yy6)∧((IntKind.i64.wrap ((0:Int)+(1:Int))==(1:Int))=false→SameK (KK r92 0) (KK r92 0)∧G 0 yy1)))∧yy3))∧(((0:Int)==(1:Int))=false→false=false∧(decide (IntKind.i64.wrap ((0:Int)+(1:Int))>(1:Int))=true→((IntKind.i64.wrap ((0:Int)+(1:Int))==(0:Int))=true→R (D.tup [D.own 0 0 m.length none,D.v (Value.bool false)],[],[Row.data 22 (Ty.int .u64) (Mi m)]))∧((IntKind.i64.wrap ((0:Int)+(1:Int))==(0:Int))=false→((IntKind.i64.wrap ((0:Int)+(1:Int))==(1:Int))=true→(0:Int)≤yy4.fst∧yy4.fst< (↑m.length:Int)∧0+Int.toNat yy4.fst< (Mi m).length∧Con Tryd.prog 24 [] [D.sl false false (Ty.int .i64) (List.take 1 yy8)] (D.v (Value.int .u64 (↑(ofN (List.take 1 yy8)):Int))) [] []∧List.take 1 yy8=List.take 1 yy8∧(0:Int)≤yy4.fst∧yy4.fst< (↑m.length:Int)∧0+Int.toNat yy4.fst< (Mi m).length∧SameK (KK r92 0) (KK r92 0)∧G 0 yy6)∧((IntKind.i64.wrap ((0:Int)+(1:Int))==(1:Int))=false→SameK (KK r92 0) (KK r92 0)∧G 0 yy1)))∧yy3))∧(((Mi m).getD (0+Int.toNat yy4.fst) (Ty.int .u64).dflt !=(↑(ofN (List.take 1 yy8)):Int))=false→(decide ((0:Int)>(1:Int))=true→(((0:Int)==(0:Int))=true→R (D.tup [D.own 0 0 m.length none,D.v (Value.bool false)],[],[Row.data 22 (Ty.int .u64) (Mi m)]))∧(((0:Int)==(0:Int))=false→(((0:Int)==(1:Int))=true→(0:Int)≤a.fst∧a.fst< (↑m.length:Int)∧0+a.fst.toNat< (Mi m).length∧Con Tryd.prog 24 [] [D.sl false false (Ty.int .i64) (List.take 1 yy9)] (D.v (Value.int .u64 (↑(ofN (List.take 1 yy9)):Int))) [] []∧List.take 1 yy9=List.take 1 yy9∧(0:Int)≤a.fst∧a.fst< (↑m.length:Int)∧0+a.fst.toNat< (Mi m).length∧SameK (KK r92 0) (KK r92 0)∧G 0 yy2)∧(((0:Int)==(1:Int))=false→SameK (KK r92 0) (KK r92 0)∧G 0 yy1)))∧(decide ((0:Int)>(1:Int))=false→SameK (KK r92 1) (KK r92 1)∧G 1 yy5))))∧(decide (k< (↑l.length:Int))=false→(((0:Int)==(0:Int))=true→R (D.tup [D.own 0 0 m.length none,D.v (Value.bool false)],[],[Row.data 22 (Ty.int .u64) (Mi m)]))∧(((0:Int)==(0:Int))=false→(((0:Int)==(1:Int))=true→(0:Int)≤a.fst∧a.fst< (↑m.length:Int)∧0+a.fst.toNat< (Mi m).length∧Con Tryd.prog 24 [] [D.sl false false (Ty.int .i64) (List.take 1 yy9)] (D.v (Value.int .u64 (↑(ofN (List.take 1 yy9)):Int))) [] []∧List.take 1 yy9=List.take 1 yy9∧(0:Int)≤a.fst∧a.fst< (↑m.length:Int)∧0+a.fst.toNat< (Mi m).length∧SameK (KK r92 0) (KK r92 0)∧G 0 yy2)∧(((0:Int)==(1:Int))=false→SameK (KK r92 0) (KK r92 0)∧G 0 yy1)))
def vq45 (g:Gr) (W:List (List Int)) (B:List (List (Int×Int))) (q:List Nat) (m:List Nat) (ws:List (List Int)) (ch:Bool) (i:Int) (l:List (Int×Int)) (k:Int) (a:Int×Int) (G:Nat→St→Prop) (R:D×List (Option Row)×List Row→Prop):Prop:=let yy0:=((Ty.int .i64).prod (Ty.int .i64));let yy1:=(stOf 105 [2,8,9,11,34,35,36] [D.sl false false yy0.sl B,D.ptr 0 0 0,D.ptr 1 0 0,D.v (Value.bool ch),D.sl false false yy0.sl B,D.v (Value.int .i64 (↑B.length:Int)),D.v (Value.int .i64 (IntKind.i64.wrap (i+(1:Int))))] [Slot.live (Row.box 73 [D.v (Value.int .i64 g.h),D.v (Value.int .i64 g.w),D.sl false false Ty.bool g.B,D.sl false false Ty.bool g.R,D.sl false false Ty.bool g.L,D.sl false false (Ty.int .i64).sl W,D.own 2 0 q.length none]),Slot.live (Row.box 151 [D.own 3 0 m.length none,D.own 4 0 ws.length none,D.v (Value.bool true)]),Slot.live (Row.data 22 (Ty.int .u64) (Mi q)),Slot.live (Row.data 22 (Ty.int .u64) (Mi m)),Slot.live (Row.nest (NK.mk 27 (Ty.int .i64).sl 0 3 (Ty.int .i64)) ws none)]);let yy2:=(stOf 105 [2,8,9,11,34,35,36] [D.sl false false yy0.sl B,D.ptr 0 0 0,D.ptr 1 0 0,D.v (Value.bool true),D.sl false false yy0.sl B,D.v (Value.int .i64 (↑B.length:Int)),D.v (Value.int .i64 (IntKind.i64.wrap (i+(1:Int))))] [Slot.live (Row.box 73 [D.v (Value.int .i64 g.h),D.v (Value.int .i64 g.w),D.sl false false Ty.bool g.B,D.sl false false Ty.bool g.R,D.sl false false Ty.bool g.L,D.sl false false (Ty.int .i64).sl W,D.own 2 0 q.length none]),Slot.live (Row.box 151 [D.own 3 0 m.length none,D.own 4 0 ws.length none,D.v (Value.bool true)]),Slot.live (Row.data 22 (Ty.int .u64) (Mi q)),Slot.live (Row.data 22 (Ty.int .u64) ((Mi m).set (0+a.fst.toNat) (IntKind.u64.wrap (↑(BitVec.ofInt 64 ((Mi m).getD (0+a.fst.toNat) (Ty.int .u64).dflt)&&& ~~~BitVec.ofInt 64 (↑(ofN (List.take 1 (List.drop 0 [a.snd]))):Int)).toNat:Int)))),Slot.live (Row.nest (NK.mk 27 (Ty.int .i64).sl 0 3 (Ty.int .i64)) ws none)]);let yy3:=(decide (IntKind.i64.wrap ((1:Int)+(1:Int))>(1:Int))=false→SameK (KK r92 1) (KK r92 1)∧G 1 (stOf 105 [2,8,9,11,14,15,34,35,36,41,42,43] [D.sl false false yy0.sl B,D.ptr 0 0 0,D.ptr 1 0 0,D.v (Value.bool ch),D.v (Value.int .i64 (IntKind.i64.wrap ((1:Int)+(1:Int)))),D.ptr 2 0 0,D.sl false false yy0.sl B,D.v (Value.int .i64 (↑B.length:Int)),D.v (Value.int .i64 i),D.sl false false yy0 l,D.v (Value.int .i64 (↑l.length:Int)),D.v (Value.int .i64 (IntKind.i64.wrap (k+(1:Int))))] [Slot.live (Row.box 73 [D.v (Value.int .i64 g.h),D.v (Value.int .i64 g.w),D.sl false false Ty.bool g.B,D.sl false false Ty.bool g.R,D.sl false false Ty.bool g.L,D.sl false false (Ty.int .i64).sl W,D.own 3 0 q.length none]),Slot.live (Row.box 151 [D.own 4 0 m.length none,D.own 5 0 ws.length none,D.v (Value.bool true)]),Slot.live (Row.box 92 [D.v (Value.int .i64 (l.getD k.toNat yy0.dflt).fst),D.v (Value.int .i64 (l.getD k.toNat yy0.dflt).snd)]),Slot.live (Row.data 22 (Ty.int .u64) (Mi q)),Slot.live (Row.data 22 (Ty.int .u64) (Mi m)),Slot.live (Row.nest (NK.mk 27 (Ty.int .i64).sl 0 3 (Ty.int .i64)) ws none)]));let yy4:=(l.getD k.toNat yy0.dflt);let yy5:=(stOf 105 [2,8,9,11,14,15,34,35,36,41,42,43] [D.sl false false yy0.sl B,D.ptr 0 0 0,D.ptr 1 0 0,D.v (Value.bool ch),D.v (Value.int .i64 (1:Int)),D.ptr 2 0 0,D.sl false false yy0.sl B,D.v (Value.int .i64 (↑B.length:Int)),D.v (Value.int .i64 i),D.sl false false yy0 l,D.v (Value.int .i64 (↑l.length:Int)),D.v (Value.int .i64 (IntKind.i64.wrap (k+(1:Int))))] [Slot.live (Row.box 73 [D.v (Value.int .i64 g.h),D.v (Value.int .i64 g.w),D.sl false false Ty.bool g.B,D.sl false false Ty.bool g.R,D.sl false false Ty.bool g.L,D.sl false false (Ty.int .i64).sl W,D.own 3 0 q.length none]),Slot.live (Row.box 151 [D.own 4 0 m.length none,D.own 5 0 ws.length none,D.v (Value.bool true)]),Slot.live (Row.box 92 [D.v (Value.int .i64 a.fst),D.v (Value.int .i64 a.snd)]),Slot.live (Row.data 22 (Ty.int .u64) (Mi q)),Slot.live (Row.data 22 (Ty.int .u64) (Mi m)),Slot.live (Row.nest (NK.mk 27 (Ty.int .i64).sl 0 3 (Ty.int .i64)) ws none)]);let yy6:=(stOf 105 [2,8,9,11,34,35,36] [D.sl false false yy0.sl B,D.ptr 0 0 0,D.ptr 1 0 0,D.v (Value.bool true),D.sl false false yy0.sl B,D.v (Value.int .i64 (↑B.length:Int)),D.v (Value.int .i64 (IntKind.i64.wrap (i+(1:Int))))] [Slot.live (Row.box 73 [D.v (Value.int .i64 g.h),D.v (Value.int .i64 g.w),D.sl false false Ty.bool g.B,D.sl false false Ty.bool g.R,D.sl false false Ty.bool g.L,D.sl false false (Ty.int .i64).sl W,D.own 2 0 q.length none]),Slot.live (Row.box 151 [D.own 3 0 m.length none,D.own 4 0 ws.length none,D.v (Value.bool true)]),Slot.live (Row.data 22 (Ty.int .u64) (Mi q)),Slot.live (Row.data 22 (Ty.int .u64) ((Mi m).set (0+Int.toNat yy4.fst) (IntKind.u64.wrap (↑(BitVec.ofInt 64 ((Mi m).getD (0+Int.toNat yy4.fst) (Ty.int .u64).dflt)&&& ~~~BitVec.ofInt 64 (↑(ofN (List.take 1 (List.drop 0 [yy4.snd]))):Int)).toNat:Int)))),Slot.live (Row.nest (NK.mk 27 (Ty.int .i64).sl 0 3 (Ty.int .i64)) ws none)]);let yy7:=((Mi m).getD (0+Int.toNat yy4.fst) (Ty.int .u64).dflt);let yy8:=(List.drop 0 [yy4.snd]);let yy9:=(List.drop 0 [a.snd]);(decide (k< (↑l.length:Int))=true→(0:Int)≤k∧k< (↑l.length:Int)∧(0:Int)≤yy4.fst∧yy4.fst< (↑m.length:Int)∧0+Int.toNat yy4.fst< (Mi m).length∧Con Tryd.prog 26 [] [D.v (Value.int .u64 yy7),D.v (Value.int .i64 yy4.snd)] (D.v (Value.bool (hasN (Int.toNat yy7) yy4.snd))) [] []∧Value.int .u64 yy7=Value.int .u64 yy7∧Value.int .i64 yy4.snd=Value.int .i64 yy4.snd∧((!hasN (Int.toNat yy7) yy4.snd)=true→(decide ((2:Int)>(1:Int))=true→(((2:Int)==(0:Int))=true→R (D.tup [D.own 0 0 m.length none,D.v (Value.bool false)],[],[Row.data 22 (Ty.int .u64) (Mi m)]))∧(((2:Int)==(0:Int))=false→(((2:Int)==(1:Int))=true→(0:Int)≤a.fst∧a.fst< (↑m.length:Int)∧0+a.fst.toNat< (Mi m).length∧Con Tryd.prog 24 [] [D.sl false false (Ty.int .i64) (List.take 1 yy9)] (D.v (Value.int .u64 (↑(ofN (List.take 1 yy9)):Int))) [] []∧List.take 1 yy9=List.take 1 yy9∧(0:Int)≤a.fst∧a.fst< (↑m.length:Int)∧0+a.fst.toNat< (Mi m).length∧SameK (KK r92 0) (KK r92 0)∧G 0 yy2)∧(((2:Int)==(1:Int))=false→SameK (KK r92 0) (KK r92 0)∧G 0 yy1)))∧(decide ((2:Int)>(1:Int))=false→SameK (KK r92 1) (KK r92 1)∧G 1 (stOf 105 [2,8,9,11,14,15,34,35,36,41,42,43] [D.sl false false yy0.sl B,D.ptr 0 0 0,D.ptr 1 0 0,D.v (Value.bool ch),D.v (Value.int .i64 (2:Int)),D.ptr 2 0 0,D.sl false false yy0.sl B,D.v (Value.int .i64 (↑B.length:Int)),D.v (Value.int .i64 i),D.sl false false yy0 l,D.v (Value.int .i64 (↑l.length:Int)),D.v (Value.int .i64 (IntKind.i64.wrap (k+(1:Int))))] [Slot.live (Row.box 73 [D.v (Value.int .i64 g.h),D.v (Value.int .i64 g.w),D.sl false false Ty.bool g.B,D.sl false false Ty.bool g.R,D.sl false false Ty.bool g.L,D.sl false false (Ty.int .i64).sl W,D.own 3 0 q.length none]),Slot.live (Row.box 151 [D.own 4 0 m.length none,D.own 5 0 ws.length none,D.v (Value.bool true)]),Slot.live (Row.box 92 [D.v (Value.int .i64 a.fst),D.v (Value.int .i64 a.snd)]),Slot.live (Row.data 22 (Ty.int .u64) (Mi q)),Slot.live (Row.data 22 (Ty.int .u64) (Mi m)),Slot.live (Row.nest (NK.mk 27 (Ty.int .i64).sl 0 3 (Ty.int .i64)) ws none)])))∧((!hasN (Int.toNat yy7) yy4.snd)=false→Con Tryd.prog 24 [] [D.sl false false (Ty.int .i64) (List.take 1 yy8)] (D.v (Value.int .u64 (↑(ofN (List.take 1 yy8)):Int))) [] []∧List.take 1 yy8=List.take 1 yy8∧(((Mi m).getD (0+Int.toNat yy4.fst) (Ty.int .u64).dflt !=(↑(ofN (List.take 1 yy8)):Int))=true→(((1:Int)==(1:Int))=true→((a.fst==yy4.fst&&(a.snd==yy4.snd&&true))=true→SameK (KK r92 1) (KK r92 1)∧G 1 yy5)∧((a.fst==yy4.fst&&(a.snd==yy4.snd&&true))=false→(decide (IntKind.i64.wrap ((1:Int)+(1:Int))>(1:Int))=true→((IntKind.i64.wrap ((1:Int)+(1:Int))==(0:Int))=true→R (D.tup [D.own 0 0 m.length none,D.v (Value.bool false)],[],[Row.data 22 (Ty.int .u64) (Mi m)]))∧((IntKind.i64.wrap ((1:Int)+(1:Int))==(0:Int))=false→((IntKind.i64.wrap ((1:Int)+(1:Int))==(1:Int))=true→(0:Int)≤yy4.fst∧yy4.fst< (↑m.length:Int)∧0+Int.toNat yy4.fst< (Mi m).length∧Con Tryd.prog 24 [] [D.sl false false (Ty.int .i64) (List.take 1 yy8)] (D.v (Value.int .u64 (↑(ofN (List.take 1 yy8)):Int))) [] []∧List.take 1 yy8=List.take 1 yy8∧(0:Int)≤yy4.fst∧yy4.fst< (↑m.length:Int)∧0+Int.toNat yy4.fst< (Mi m).length∧SameK (KK r92 0) (KK r92 0)∧G 0 yy6)∧((IntKind.i64.wrap ((1:Int)+(1:Int))==(1:Int))=false→SameK (KK r92 0) (KK r92 0)∧G 0 yy1)))∧yy3))∧(((1:Int)==(1:Int))=false→false=false∧(decide (IntKind.i64.wrap ((1:Int)+(1:Int))>(1:Int))=true→((IntKind.i64.wrap ((1:Int)+(1:Int))==(0:Int))=true→R (D.tup [D.own 0 0 m.length none,D.v (Value.bool false)],[],[Row.data 22 (Ty.int .u64) (Mi m)]))∧((IntKind.i64.wrap ((1:Int)+(1:Int))==(0:Int))=false→((IntKind.i64.wrap ((1:Int)+(1:Int))==(1:Int))=true→(0:Int)≤yy4.fst∧yy4.fst< (↑m.length:Int)∧0+Int.toNat yy4.fst< (Mi m).length∧Con Tryd.prog 24 [] [D.sl false false (Ty.int .i64) (List.take 1 yy8)] (D.v (Value.int .u64 (↑(ofN (List.take 1 yy8)):Int))) [] []∧List.take 1 yy8=List.take 1 yy8∧(0:Int)≤yy4.fst∧yy4.fst< (↑m.length:Int)∧0+Int.toNat yy4.fst< (Mi m).length∧SameK (KK r92 0) (KK r92 0)∧G 0 yy6)∧((IntKind.i64.wrap ((1:Int)+(1:Int))==(1:Int))=false→SameK (KK r92 0) (KK r92 0)∧G 0 yy1)))∧yy3))∧(((Mi m).getD (0+Int.toNat yy4.fst) (Ty.int .u64).dflt !=(↑(ofN (List.take 1 yy8)):Int))=false→(decide ((1:Int)>(1:Int))=true→(((1:Int)==(0:Int))=true→R (D.tup [D.own 0 0 m.length none,D.v (Value.bool false)],[],[Row.data 22 (Ty.int .u64) (Mi m)]))∧(((1:Int)==(0:Int))=false→(((1:Int)==(1:Int))=true→(0:Int)≤a.fst∧a.fst< (↑m.length:Int)∧0+a.fst.toNat< (Mi m).length∧Con Tryd.prog 24 [] [D.sl false false (Ty.int .i64) (List.take 1 yy9)] (D.v (Value.int .u64 (↑(ofN (List.take 1 yy9)):Int))) [] []∧List.take 1 yy9=List.take 1 yy9∧(0:Int)≤a.fst∧a.fst< (↑m.length:Int)∧0+a.fst.toNat< (Mi m).length∧SameK (KK r92 0) (KK r92 0)∧G 0 yy2)∧(((1:Int)==(1:Int))=false→SameK (KK r92 0) (KK r92 0)∧G 0 yy1)))∧(decide ((1:Int)>(1:Int))=false→SameK (KK r92 1) (KK r92 1)∧G 1 yy5))))∧(decide (k< (↑l.length:Int))=false→(((1:Int)==(0:Int))=true→R (D.tup [D.own 0 0 m.length none,D.v (Value.bool false)],[],[Row.data 22 (Ty.int .u64) (Mi m)]))∧(((1:Int)==(0:Int))=false→(((1:Int)==(1:Int))=true→(0:Int)≤a.fst∧a.fst< (↑m.length:Int)∧0+a.fst.toNat< (Mi m).length∧Con Tryd.prog 24 [] [D.sl false false (Ty.int .i64) (List.take 1 yy9)] (D.v (Value.int .u64 (↑(ofN (List.take 1 yy9)):Int))) [] []∧List.take 1 yy9=List.take 1 yy9∧(0:Int)≤a.fst∧a.fst< (↑m.length:Int)∧0+a.fst.toNat< (Mi m).length∧SameK (KK r92 0) (KK r92 0)∧G 0 yy2)∧(((1:Int)==(1:Int))=false→SameK (KK r92 0) (KK r92 0)∧G 0 yy1)))
def vq46 (g:Gr) (W:List (List Int)) (B:List (List (Int×Int))) (q:List Nat) (m:List Nat) (ws:List (List Int)) (ch:Bool) (i:Int) (l:List (Int×Int)) (k:Int) (op:Int) (a:Int×Int) (G:Nat→St→Prop) (R:D×List (Option Row)×List Row→Prop):Prop:=let yy0:=((Ty.int .i64).prod (Ty.int .i64));let yy1:=(stOf 105 [2,8,9,11,34,35,36] [D.sl false false yy0.sl B,D.ptr 0 0 0,D.ptr 1 0 0,D.v (Value.bool ch),D.sl false false yy0.sl B,D.v (Value.int .i64 (↑B.length:Int)),D.v (Value.int .i64 (IntKind.i64.wrap (i+(1:Int))))] [Slot.live (Row.box 73 [D.v (Value.int .i64 g.h),D.v (Value.int .i64 g.w),D.sl false false Ty.bool g.B,D.sl false false Ty.bool g.R,D.sl false false Ty.bool g.L,D.sl false false (Ty.int .i64).sl W,D.own 2 0 q.length none]),Slot.live (Row.box 151 [D.own 3 0 m.length none,D.own 4 0 ws.length none,D.v (Value.bool true)]),Slot.live (Row.data 22 (Ty.int .u64) (Mi q)),Slot.live (Row.data 22 (Ty.int .u64) (Mi m)),Slot.live (Row.nest (NK.mk 27 (Ty.int .i64).sl 0 3 (Ty.int .i64)) ws none)]);let yy2:=(stOf 105 [2,8,9,11,34,35,36] [D.sl false false yy0.sl B,D.ptr 0 0 0,D.ptr 1 0 0,D.v (Value.bool true),D.sl false false yy0.sl B,D.v (Value.int .i64 (↑B.length:Int)),D.v (Value.int .i64 (IntKind.i64.wrap (i+(1:Int))))] [Slot.live (Row.box 73 [D.v (Value.int .i64 g.h),D.v (Value.int .i64 g.w),D.sl false false Ty.bool g.B,D.sl false false Ty.bool g.R,D.sl false false Ty.bool g.L,D.sl false false (Ty.int .i64).sl W,D.own 2 0 q.length none]),Slot.live (Row.box 151 [D.own 3 0 m.length none,D.own 4 0 ws.length none,D.v (Value.bool true)]),Slot.live (Row.data 22 (Ty.int .u64) (Mi q)),Slot.live (Row.data 22 (Ty.int .u64) ((Mi m).set (0+a.fst.toNat) (IntKind.u64.wrap (↑(BitVec.ofInt 64 ((Mi m).getD (0+a.fst.toNat) (Ty.int .u64).dflt)&&& ~~~BitVec.ofInt 64 (↑(ofN (List.take 1 (List.drop 0 [a.snd]))):Int)).toNat:Int)))),Slot.live (Row.nest (NK.mk 27 (Ty.int .i64).sl 0 3 (Ty.int .i64)) ws none)]);let yy3:=(decide (IntKind.i64.wrap (op+(1:Int))>(1:Int))=false→SameK (KK r92 1) (KK r92 1)∧G 1 (stOf 105 [2,8,9,11,14,15,34,35,36,41,42,43] [D.sl false false yy0.sl B,D.ptr 0 0 0,D.ptr 1 0 0,D.v (Value.bool ch),D.v (Value.int .i64 (IntKind.i64.wrap (op+(1:Int)))),D.ptr 2 0 0,D.sl false false yy0.sl B,D.v (Value.int .i64 (↑B.length:Int)),D.v (Value.int .i64 i),D.sl false false yy0 l,D.v (Value.int .i64 (↑l.length:Int)),D.v (Value.int .i64 (IntKind.i64.wrap (k+(1:Int))))] [Slot.live (Row.box 73 [D.v (Value.int .i64 g.h),D.v (Value.int .i64 g.w),D.sl false false Ty.bool g.B,D.sl false false Ty.bool g.R,D.sl false false Ty.bool g.L,D.sl false false (Ty.int .i64).sl W,D.own 3 0 q.length none]),Slot.live (Row.box 151 [D.own 4 0 m.length none,D.own 5 0 ws.length none,D.v (Value.bool true)]),Slot.live (Row.box 92 [D.v (Value.int .i64 (l.getD k.toNat yy0.dflt).fst),D.v (Value.int .i64 (l.getD k.toNat yy0.dflt).snd)]),Slot.live (Row.data 22 (Ty.int .u64) (Mi q)),Slot.live (Row.data 22 (Ty.int .u64) (Mi m)),Slot.live (Row.nest (NK.mk 27 (Ty.int .i64).sl 0 3 (Ty.int .i64)) ws none)]));let yy4:=(l.getD k.toNat yy0.dflt);let yy5:=(stOf 105 [2,8,9,11,14,15,34,35,36,41,42,43] [D.sl false false yy0.sl B,D.ptr 0 0 0,D.ptr 1 0 0,D.v (Value.bool ch),D.v (Value.int .i64 op),D.ptr 2 0 0,D.sl false false yy0.sl B,D.v (Value.int .i64 (↑B.length:Int)),D.v (Value.int .i64 i),D.sl false false yy0 l,D.v (Value.int .i64 (↑l.length:Int)),D.v (Value.int .i64 (IntKind.i64.wrap (k+(1:Int))))] [Slot.live (Row.box 73 [D.v (Value.int .i64 g.h),D.v (Value.int .i64 g.w),D.sl false false Ty.bool g.B,D.sl false false Ty.bool g.R,D.sl false false Ty.bool g.L,D.sl false false (Ty.int .i64).sl W,D.own 3 0 q.length none]),Slot.live (Row.box 151 [D.own 4 0 m.length none,D.own 5 0 ws.length none,D.v (Value.bool true)]),Slot.live (Row.box 92 [D.v (Value.int .i64 a.fst),D.v (Value.int .i64 a.snd)]),Slot.live (Row.data 22 (Ty.int .u64) (Mi q)),Slot.live (Row.data 22 (Ty.int .u64) (Mi m)),Slot.live (Row.nest (NK.mk 27 (Ty.int .i64).sl 0 3 (Ty.int .i64)) ws none)]);let yy6:=(stOf 105 [2,8,9,11,34,35,36] [D.sl false false yy0.sl B,D.ptr 0 0 0,D.ptr 1 0 0,D.v (Value.bool true),D.sl false false yy0.sl B,D.v (Value.int .i64 (↑B.length:Int)),D.v (Value.int .i64 (IntKind.i64.wrap (i+(1:Int))))] [Slot.live (Row.box 73 [D.v (Value.int .i64 g.h),D.v (Value.int .i64 g.w),D.sl false false Ty.bool g.B,D.sl false false Ty.bool g.R,D.sl false false Ty.bool g.L,D.sl false false (Ty.int .i64).sl W,D.own 2 0 q.length none]),Slot.live (Row.box 151 [D.own 3 0 m.length none,D.own 4 0 ws.length none,D.v (Value.bool true)]),Slot.live (Row.data 22 (Ty.int .u64) (Mi q)),Slot.live (Row.data 22 (Ty.int .u64) ((Mi m).set (0+Int.toNat yy4.fst) (IntKind.u64.wrap (↑(BitVec.ofInt 64 ((Mi m).getD (0+Int.toNat yy4.fst) (Ty.int .u64).dflt)&&& ~~~BitVec.ofInt 64 (↑(ofN (List.take 1 (List.drop 0 [yy4.snd]))):Int)).toNat:Int)))),Slot.live (Row.nest (NK.mk 27 (Ty.int .i64).sl 0 3 (Ty.int .i64)) ws none)]);let yy7:=((Mi m).getD (0+Int.toNat yy4.fst) (Ty.int .u64).dflt);let yy8:=(List.drop 0 [yy4.snd]);let yy9:=(List.drop 0 [a.snd]);(decide (k< (↑l.length:Int))=true→(0:Int)≤k∧k< (↑l.length:Int)∧(0:Int)≤yy4.fst∧yy4.fst< (↑m.length:Int)∧0+Int.toNat yy4.fst< (Mi m).length∧Con Tryd.prog 26 [] [D.v (Value.int .u64 yy7),D.v (Value.int .i64 yy4.snd)] (D.v (Value.bool (hasN (Int.toNat yy7) yy4.snd))) [] []∧Value.int .u64 yy7=Value.int .u64 yy7∧Value.int .i64 yy4.snd=Value.int .i64 yy4.snd∧((!hasN (Int.toNat yy7) yy4.snd)=true→(decide ((2:Int)>(1:Int))=true→(((2:Int)==(0:Int))=true→R (D.tup [D.own 0 0 m.length none,D.v (Value.bool false)],[],[Row.data 22 (Ty.int .u64) (Mi m)]))∧(((2:Int)==(0:Int))=false→(((2:Int)==(1:Int))=true→(0:Int)≤a.fst∧a.fst< (↑m.length:Int)∧0+a.fst.toNat< (Mi m).length∧Con Tryd.prog 24 [] [D.sl false false (Ty.int .i64) (List.take 1 yy9)] (D.v (Value.int .u64 (↑(ofN (List.take 1 yy9)):Int))) [] []∧List.take 1 yy9=List.take 1 yy9∧(0:Int)≤a.fst∧a.fst< (↑m.length:Int)∧0+a.fst.toNat< (Mi m).length∧SameK (KK r92 0) (KK r92 0)∧G 0 yy2)∧(((2:Int)==(1:Int))=false→SameK (KK r92 0) (KK r92 0)∧G 0 yy1)))∧(decide ((2:Int)>(1:Int))=false→SameK (KK r92 1) (KK r92 1)∧G 1 (stOf 105 [2,8,9,11,14,15,34,35,36,41,42,43] [D.sl false false yy0.sl B,D.ptr 0 0 0,D.ptr 1 0 0,D.v (Value.bool ch),D.v (Value.int .i64 (2:Int)),D.ptr 2 0 0,D.sl false false yy0.sl B,D.v (Value.int .i64 (↑B.length:Int)),D.v (Value.int .i64 i),D.sl false false yy0 l,D.v (Value.int .i64 (↑l.length:Int)),D.v (Value.int .i64 (IntKind.i64.wrap (k+(1:Int))))] [Slot.live (Row.box 73 [D.v (Value.int .i64 g.h),D.v (Value.int .i64 g.w),D.sl false false Ty.bool g.B,D.sl false false Ty.bool g.R,D.sl false false Ty.bool g.L,D.sl false false (Ty.int .i64).sl W,D.own 3 0 q.length none]),Slot.live (Row.box 151 [D.own 4 0 m.length none,D.own 5 0 ws.length none,D.v (Value.bool true)]),Slot.live (Row.box 92 [D.v (Value.int .i64 a.fst),D.v (Value.int .i64 a.snd)]),Slot.live (Row.data 22 (Ty.int .u64) (Mi q)),Slot.live (Row.data 22 (Ty.int .u64) (Mi m)),Slot.live (Row.nest (NK.mk 27 (Ty.int .i64).sl 0 3 (Ty.int .i64)) ws none)])))∧((!hasN (Int.toNat yy7) yy4.snd)=false→Con Tryd.prog 24 [] [D.sl false false (Ty.int .i64) (List.take 1 yy8)] (D.v (Value.int .u64 (↑(ofN (List.take 1 yy8)):Int))) [] []∧List.take 1 yy8=List.take 1 yy8∧(((Mi m).getD (0+Int.toNat yy4.fst) (Ty.int .u64).dflt !=(↑(ofN (List.take 1 yy8)):Int))=true→((op==(1:Int))=true→((a.fst==yy4.fst&&(a.snd==yy4.snd&&true))=true→SameK (KK r92 1) (KK r92 1)∧G 1 yy5)∧((a.fst==yy4.fst&&(a.snd==yy4.snd&&true))=false→(decide (IntKind.i64.wrap (op+(1:Int))>(1:Int))=true→((IntKind.i64.wrap (op+(1:Int))==(0:Int))=true→R (D.tup [D.own 0 0 m.length none,D.v (Value.bool false)],[],[Row.data 22 (Ty.int .u64) (Mi m)]))∧((IntKind.i64.wrap (op+(1:Int))==(0:Int))=false→((IntKind.i64.wrap (op+(1:Int))==(1:Int))=true→(0:Int)≤yy4.fst∧yy4.fst< (↑m.length:Int)∧0+Int.toNat yy4.fst< (Mi m).length∧Con Tryd.prog 24 [] [D.sl false false (Ty.int .i64) (List.take 1 yy8)] (D.v (Value.int .u64 (↑(ofN (List.take 1 yy8)):Int))) [] []∧List.take 1 yy8=List.take 1 yy8∧(0:Int)≤yy4.fst∧yy4.fst< (↑m.length:Int)∧0+Int.toNat yy4.fst< (Mi m).length∧SameK (KK r92 0) (KK r92 0)∧G 0 yy6)∧((IntKind.i64.wrap (op+(1:Int))==(1:Int))=false→SameK (KK r92 0) (KK r92 0)∧G 0 yy1)))∧yy3))∧((op==(1:Int))=false→false=false∧(decide (IntKind.i64.wrap (op+(1:Int))>(1:Int))=true→((IntKind.i64.wrap (op+(1:Int))==(0:Int))=true→R (D.tup [D.own 0 0 m.length none,D.v (Value.bool false)],[],[Row.data 22 (Ty.int .u64) (Mi m)]))∧((IntKind.i64.wrap (op+(1:Int))==(0:Int))=false→((IntKind.i64.wrap (op+(1:Int))==(1:Int))=true→(0:Int)≤yy4.fst∧yy4.fst< (↑m.length:Int)∧0+Int.toNat yy4.fst< (Mi m).length∧Con Tryd.prog 24 [] [D.sl false false (Ty.int .i64) (List.take 1 yy8)] (D.v (Value.int .u64 (↑(ofN (List.take 1 yy8)):Int))) [] []∧List.take 1 yy8=List.take 1 yy8∧(0:Int)≤yy4.fst∧yy4.fst< (↑m.length:Int)∧0+Int.toNat yy4.fst< (Mi m).length∧SameK (KK r92 0) (KK r92 0)∧G 0 yy6)∧((IntKind.i64.wrap (op+(1:Int))==(1:Int))=false→SameK (KK r92 0) (KK r92 0)∧G 0 yy1)))∧yy3))∧(((Mi m).getD (0+Int.toNat yy4.fst) (Ty.int .u64).dflt !=(↑(ofN (List.take 1 yy8)):Int))=false→(decide (op>(1:Int))=true→((op==(0:Int))=true→R (D.tup [D.own 0 0 m.length none,D.v (Value.bool false)],[],[Row.data 22 (Ty.int .u64) (Mi m)]))∧((op==(0:Int))=false→((op==(1:Int))=true→(0:Int)≤a.fst∧a.fst< (↑m.length:Int)∧0+a.fst.toNat< (Mi m).length∧Con Tryd.prog 24 [] [D.sl false false (Ty.int .i64) (List.take 1 yy9)] (D.v (Value.int .u64 (↑(ofN (List.take 1 yy9)):Int))) [] []∧List.take 1 yy9=List.take 1 yy9∧(0:Int)≤a.fst∧a.fst< (↑m.length:Int)∧0+a.fst.toNat< (Mi m).length∧SameK (KK r92 0) (KK r92 0)∧G 0 yy2)∧((op==(1:Int))=false→SameK (KK r92 0) (KK r92 0)∧G 0 yy1)))∧(decide (op>(1:Int))=false→SameK (KK r92 1) (KK r92 1)∧G 1 yy5))))∧(decide (k< (↑l.length:Int))=false→((op==(0:Int))=true→R (D.tup [D.own 0 0 m.length none,D.v (Value.bool false)],[],[Row.data 22 (Ty.int .u64) (Mi m)]))∧((op==(0:Int))=false→((op==(1:Int))=true→(0:Int)≤a.fst∧a.fst< (↑m.length:Int)∧0+a.fst.toNat< (Mi m).length∧Con Tryd.prog 24 [] [D.sl false false (Ty.int .i64) (List.take 1 yy9)] (D.v (Value.int .u64 (↑(ofN (List.take 1 yy9)):Int))) [] []∧List.take 1 yy9=List.take 1 yy9∧(0:Int)≤a.fst∧a.fst< (↑m.length:Int)∧0+a.fst.toNat< (Mi m).length∧SameK (KK r92 0) (KK r92 0)∧G 0 yy2)∧((op==(1:Int))=false→SameK (KK r92 0) (KK r92 0)∧G 0 yy1)))
theorem e92c (g:Gr) (W:List (List Int)) (B:List (List (Int×Int))) (q m:List Nat) (ws:List (List Int)) (ch:Bool) (i:Int) (r:List Nat×Bool) (l:List (Int×Int)) (hm:Smalls m) (hll:l.length≤8796093022208) (hl:∀x∈l,0≤x.1∧x.1<m.length) (hii:IntKind.i64.wrap (i+1)=i+1) (u:Int×(Int×Int))
  (h2:u.1=2→r=(m,false)) (h1:u.1=1→GetsK Tryd.prog Tryd.f92.results.toList [none,none] (KK r92) 0 (.tup [.own 0 0 r.1.length none,.v (.bool r.2)],[],[.data 22 (.int .u64) (Mi r.1)]) 0 (stOf 105 [2,8,9,11,34,35,36] [slBd B,.ptr 0 0 0,.ptr 1 0 0,.v (.bool true),slBd B,.v (.int .i64 B.length),.v (.int .i64 (i+1))] [.live (.box 73 [.v (.int .i64 g.h),.v (.int .i64 g.w),.sl false false .bool g.B,.sl false false .bool g.R,.sl false false .bool g.L,slW W,.own 2 0 q.length none]),.live (.box 151 [.own 3 0 (letgo m u.2).length none,.own 4 0 ws.length none,.v (.bool true)]),.live (.data 22 (.int .u64) (Mi q)),.live (.data 22 (.int .u64) (Mi (letgo m u.2))),.live (.nest kW ws none)])) (h0:u.1=0→GetsK Tryd.prog Tryd.f92.results.toList [none,none] (KK r92) 0 (.tup [.own 0 0 r.1.length none,.v (.bool r.2)],[],[.data 22 (.int .u64) (Mi r.1)]) 0 (stOf 105 [2,8,9,11,34,35,36] [slBd B,.ptr 0 0 0,.ptr 1 0 0,.v (.bool ch),slBd B,.v (.int .i64 B.length),.v (.int .i64 (i+1))] [.live (.box 73 [.v (.int .i64 g.h),.v (.int .i64 g.w),.sl false false .bool g.B,.sl false false .bool g.R,.sl false false .bool g.L,slW W,.own 2 0 q.length none]),.live (.box 151 [.own 3 0 m.length none,.own 4 0 ws.length none,.v (.bool true)]),.live (.data 22 (.int .u64) (Mi q)),.live (.data 22 (.int .u64) (Mi m)),.live (.nest kW ws none)])) (z:Nat):∀(k op:Int) (a:Int×Int),0≤k→k+z=l.length→(op=0∨op=1∧a∈l∧hereB m a=true)→restU m op a (l.drop k.toNat)=u→GetsK Tryd.prog Tryd.f92.results.toList [none,none] (KK r92) 0 (.tup [.own 0 0 r.1.length none,.v (.bool r.2)],[],[.data 22 (.int .u64) (Mi r.1)]) 1 (stOf 105 [2,8,9,11,14,15,34,35,36,41,42,43] [slBd B,.ptr 0 0 0,.ptr 1 0 0,.v (.bool ch),.v (.int .i64 op),.ptr 2 0 0,slBd B,.v (.int .i64 B.length),.v (.int .i64 i),slQ l,.v (.int .i64 l.length),.v (.int .i64 k)] [.live (.box 73 [.v (.int .i64 g.h),.v (.int .i64 g.w),.sl false false .bool g.B,.sl false false .bool g.R,.sl false false .bool g.L,slW W,.own 3 0 q.length none]),.live (.box 151 [.own 4 0 m.length none,.own 5 0 ws.length none,.v (.bool true)]),.live (.box 92 [.v (.int .i64 a.1),.v (.int .i64 a.2)]),.live (.data 22 (.int .u64) (Mi q)),.live (.data 22 (.int .u64) (Mi m)),.live (.nest kW ws none)]):=by
 induction z with
 |zero=>
  intro k op a k0 hk hop hu
  rw[List.drop_eq_nil_of_le (by omega)] at hu
  rcases hop with hop|⟨hop,ha,hh⟩
  ·subst hop
   rw[restU_nil0] at hu
   have hr:=h2 (by rw[←hu])
   subst hr
   refine gets_vc spR (fun k=> [[2,8,9,11,34,35,36],[2,8,9,11,14,15,34,35,36,41,42,43]].getD k []) (fun _=> []) 400 (.fork (.fork (.fork (.fork .stop (.fork (.hd 0) (.hd 0))) (.hd 1)) (.fork (.fork (.fork (.hd 1) (.fork (.fork .stop (.fork (.hd 0) (.hd 0))) (.hd 1))) (.f (.fork (.fork .stop (.fork (.hd 0) (.hd 0))) (.hd 1)))) (.fork (.fork .stop (.fork (.hd 0) (.hd 0))) (.hd 1)))) (.fork .stop (.fork (.hd 0) (.hd 0)))) (V:=vq44 g W B q m ws ch i l k a) hmG (fun G R=>by kernel_rfl) ?_
   unfold vq44
   try dsimp only
   simp only[show((0:Int)==0)=true from rfl,show((0:Int)==1)=false from rfl]
   simp (disch:=omega) only[oo,oop,ne_eq,Ty.dflt,reduceCtorEq]
   repeat' (first|with_reducible refine And.intro ?_ ?_|intro _)
   all_goals first|rfl|omega|assumption|trivial|(exfalso;simp_all;done)|(exfalso;omega)|skip
  ·subst hop
   rw[restU_nil1] at hu
   have hg:=h1 (by rw[←hu])
   rw[←hu] at hg
   have hr:=hl a ha
   obtain⟨b1,b2,b3,b4⟩:=has_sub hh
   have c1:=d67 [a.2] (by simp)
   rw[ofN_one] at c1
   have e1:=andn_sub (hm.at a.1.toNat) b4 b1
   unfold letgo at hg
   rw[List.length_set] at hg
   refine gets_vc spR (fun k=> [[2,8,9,11,34,35,36],[2,8,9,11,14,15,34,35,36,41,42,43]].getD k []) (fun _=> []) 400 (.fork (.fork (.fork (.fork .stop (.fork (.hd 0) (.hd 0))) (.hd 1)) (.fork (.fork (.fork (.hd 1) (.fork (.fork .stop (.fork (.hd 0) (.hd 0))) (.hd 1))) (.f (.fork (.fork .stop (.fork (.hd 0) (.hd 0))) (.hd 1)))) (.fork (.fork .stop (.fork (.hd 0) (.hd 0))) (.hd 1)))) (.fork .stop (.fork (.hd 0) (.hd 0)))) (V:=vq45 g W B q m ws ch i l k a) hmG (fun G R=>by kernel_rfl) ?_
   unfold vq45
   try dsimp only
   simp only[show((1:Int)==0)=false from rfl,show((1:Int)==1)=true from rfl,Ty.dflt,hii,take_len,List.drop_zero,List.take_length,Mi_getD,Mi_len,Nt_Mi,Int.toNat_natCast,Mi_set,Nat.zero_add,Nat.sub_zero,List.length_set,take_one,takeSn,List.take_zero,List.nil_append,List.length_append,List.length_cons,List.length_nil,Mi_take,ofN_one,e1]
   simp (disch:=omega) only[oo,oop,ne_eq,Ty.dflt,reduceCtorEq]
   repeat' (first|with_reducible refine And.intro ?_ ?_|intro _)
   all_goals first|rfl|omega|assumption|trivial|(exfalso;simp_all;done)|(exfalso;omega)|skip
 |succ z ih=>
  intro k op a k0 hk hop hu
  have hk1:IntKind.i64.wrap (k+1)=k+1:=wrG (by omega) (by omega)
  have hxm:=getD_in (d:=((0:Int),(0:Int))) (k:=k.toNat) (l:=l) (by omega)
  have hx:=hl _ hxm
  rw[drop_at (xs:=l) (i:=k) (0,0) k0 (by omega)] at hu
  obtain⟨x,hxx⟩:∃x,l.getD k.toNat (0,0)=x:=⟨_,rfl⟩
  rw[hxx] at hx hu hxm
  have c1:=d66 (m.getD x.1.toNat 0) x.2 (hm.at _)
  have c2:=d67 [x.2] (by simp)
  rw[ofN_one] at c2
  have w2:((2:Int)==0)=false:=rfl
  have w3:((2:Int)==1)=false:=rfl
  have w4:decide ((2:Int)>1)=true:=rfl
  have w5:decide ((1:Int)>1)=false:=rfl
  have w6:decide ((0:Int)>1)=false:=rfl
  have w7:IntKind.i64.wrap ((0:Int)+1)=1:=by decide
  have w8:IntKind.i64.wrap ((1:Int)+1)=2:=by decide
  have w9:((0:Int)==1)=false:=rfl
  have w10:((1:Int)==1)=true:=rfl
  cases hh:hereB m x with
  |false=>
   rw[restU_no hh] at hu
   have hg:=h0 (by rw[←hu])
   have hh':hasN (m.getD x.1.toNat 0) x.2=false:=hh
   rw[hh'] at c1
   refine gets_vc spR (fun k=> [[2,8,9,11,34,35,36],[2,8,9,11,14,15,34,35,36,41,42,43]].getD k []) (fun _=> []) 400 (.fork (.fork (.fork (.fork .stop (.fork (.hd 0) (.hd 0))) (.hd 1)) (.fork (.fork (.fork (.hd 1) (.fork (.fork .stop (.fork (.hd 0) (.hd 0))) (.hd 1))) (.f (.fork (.fork .stop (.fork (.hd 0) (.hd 0))) (.hd 1)))) (.fork (.fork .stop (.fork (.hd 0) (.hd 0))) (.hd 1)))) (.fork .stop (.fork (.hd 0) (.hd 0)))) (V:=vq46 g W B q m ws ch i l k op a) hmG (fun G R=>by kernel_rfl) ?_
   unfold vq46
   try dsimp only
   simp only[Ty.dflt,hk1,hii,hxx,take_len,List.drop_zero,List.take_length,Mi_getD,Mi_len,Nt_Mi,Int.toNat_natCast,Mi_set,Nat.zero_add,Nat.sub_zero,List.length_set,take_one,takeSn,List.take_zero,List.nil_append,List.length_append,List.length_cons,List.length_nil,Mi_take,hh',w2,w3,w4,Bool.not_false]
   simp (disch:=omega) only[oo,oop,ne_eq,Ty.dflt,reduceCtorEq]
   repeat' (first|with_reducible refine And.intro ?_ ?_|intro _)
   all_goals first|rfl|omega|assumption|trivial|(exfalso;simp_all;done)|(exfalso;omega)|skip
  |true=>
   have hh':hasN (m.getD x.1.toNat 0) x.2=true:=hh
   rw[hh'] at c1
   cases ho:openB m x with
   |false=>
    rw[restU_shut hh ho] at hu
    have hg:=ih (k+1) op a (by omega) (by omega) hop hu
    have e1:(((m.getD x.1.toNat 0:Nat):Int) !=((bitN x.2:Nat):Int))=false:=by
     simp only[openB,bne_eq_false_iff_eq] at ho
     rw[ho]
     simp
    have w11:decide (op>1)=false:=by rcases hop with h|h<;>(rw[decide_eq_false_iff_not];omega)
    refine gets_vc spR (fun k=> [[2,8,9,11,34,35,36],[2,8,9,11,14,15,34,35,36,41,42,43]].getD k []) (fun _=> []) 400 (.fork (.fork (.fork (.fork .stop (.fork (.hd 0) (.hd 0))) (.hd 1)) (.fork (.fork (.fork (.hd 1) (.fork (.fork .stop (.fork (.hd 0) (.hd 0))) (.hd 1))) (.f (.fork (.fork .stop (.fork (.hd 0) (.hd 0))) (.hd 1)))) (.fork (.fork .stop (.fork (.hd 0) (.hd 0))) (.hd 1)))) (.fork .stop (.fork (.hd 0) (.hd 0)))) (V:=vq46 g W B q m ws ch i l k op a) hmG (fun G R=>by kernel_rfl) ?_
    unfold vq46
    try dsimp only
    simp only[Ty.dflt,hk1,hii,hxx,take_len,List.drop_zero,List.take_length,Mi_getD,Mi_len,Nt_Mi,Int.toNat_natCast,Mi_set,Nat.zero_add,Nat.sub_zero,List.length_set,take_one,takeSn,List.take_zero,List.nil_append,List.length_append,List.length_cons,List.length_nil,Mi_take,hh',ofN_one,e1,w11,Bool.not_true]
    simp (disch:=omega) only[oo,oop,ne_eq,Ty.dflt,reduceCtorEq]
    repeat' (first|with_reducible refine And.intro ?_ ?_|intro _)
    all_goals first|rfl|omega|assumption|trivial|(exfalso;simp_all;done)|(exfalso;omega)|skip
   |true=>
    have e1:(((m.getD x.1.toNat 0:Nat):Int) !=((bitN x.2:Nat):Int))=true:=by
     simp only[openB,bne_iff_ne,ne_eq] at ho
     rw[bne_iff_ne]
     omega
    rcases hop with hop|⟨hop,ha,hah⟩
    ·subst hop
     rw[restU_first hh ho] at hu
     have hg:=ih (k+1) 1 x (by omega) (by omega) (Or.inr ⟨rfl,hxm,hh⟩) hu
     refine gets_vc spR (fun k=> [[2,8,9,11,34,35,36],[2,8,9,11,14,15,34,35,36,41,42,43]].getD k []) (fun _=> []) 400 (.fork (.fork (.fork (.fork .stop (.fork (.hd 0) (.hd 0))) (.hd 1)) (.fork (.fork (.fork (.hd 1) (.fork (.fork .stop (.fork (.hd 0) (.hd 0))) (.hd 1))) (.f (.fork (.fork .stop (.fork (.hd 0) (.hd 0))) (.hd 1)))) (.fork (.fork .stop (.fork (.hd 0) (.hd 0))) (.hd 1)))) (.fork .stop (.fork (.hd 0) (.hd 0)))) (V:=vq44 g W B q m ws ch i l k a) hmG (fun G R=>by kernel_rfl) ?_
     unfold vq44
     try dsimp only
     simp only[Ty.dflt,hk1,hii,hxx,take_len,List.drop_zero,List.take_length,Mi_getD,Mi_len,Nt_Mi,Int.toNat_natCast,Mi_set,Nat.zero_add,Nat.sub_zero,List.length_set,take_one,takeSn,List.take_zero,List.nil_append,List.length_append,List.length_cons,List.length_nil,Mi_take,hh',ofN_one,e1,w5,w7,w9,Bool.not_true]
     simp (disch:=omega) only[oo,oop,ne_eq,Ty.dflt,reduceCtorEq]
     repeat' (first|with_reducible refine And.intro ?_ ?_|intro _)
     all_goals first|rfl|omega|assumption|trivial|(exfalso;simp_all;done)|(exfalso;omega)|skip
    ·subst hop
     have e2:(a.1==x.1&&(a.2==x.2&&true))=(a==x):=by
      rw[Bool.and_true]
      rfl
     by_cases e:a=x
     ·rw[restU_same hh ho e] at hu
      have hg:=ih (k+1) 1 a (by omega) (by omega) (Or.inr ⟨rfl,ha,hah⟩) hu
      have e3:(a==x)=true:=by rw[e];simp
      refine gets_vc spR (fun k=> [[2,8,9,11,34,35,36],[2,8,9,11,14,15,34,35,36,41,42,43]].getD k []) (fun _=> []) 400 (.fork (.fork (.fork (.fork .stop (.fork (.hd 0) (.hd 0))) (.hd 1)) (.fork (.fork (.fork (.hd 1) (.fork (.fork .stop (.fork (.hd 0) (.hd 0))) (.hd 1))) (.f (.fork (.fork .stop (.fork (.hd 0) (.hd 0))) (.hd 1)))) (.fork (.fork .stop (.fork (.hd 0) (.hd 0))) (.hd 1)))) (.fork .stop (.fork (.hd 0) (.hd 0)))) (V:=vq45 g W B q m ws ch i l k a) hmG (fun G R=>by kernel_rfl) ?_
      unfold vq45
      try dsimp only
      simp only[Ty.dflt,hk1,hii,hxx,take_len,List.drop_zero,List.take_length,Mi_getD,Mi_len,Nt_Mi,Int.toNat_natCast,Mi_set,Nat.zero_add,Nat.sub_zero,List.length_set,take_one,takeSn,List.take_zero,List.nil_append,List.length_append,List.length_cons,List.length_nil,Mi_take,hh',ofN_one,e1,e2,e3,w10,Bool.not_true]
      simp (disch:=omega) only[oo,oop,ne_eq,Ty.dflt,reduceCtorEq]
      repeat' (first|with_reducible refine And.intro ?_ ?_|intro _)
      all_goals first|rfl|omega|assumption|trivial|(exfalso;simp_all;done)|(exfalso;omega)|skip
     ·rw[restU_diff hh ho e] at hu
      have hg:=h0 (by rw[←hu])
      have e3:(a==x)=false:=by rw[beq_eq_false_iff_ne];exact e
      refine gets_vc spR (fun k=> [[2,8,9,11,34,35,36],[2,8,9,11,14,15,34,35,36,41,42,43]].getD k []) (fun _=> []) 400 (.fork (.fork (.fork (.fork .stop (.fork (.hd 0) (.hd 0))) (.hd 1)) (.fork (.fork (.fork (.hd 1) (.fork (.fork .stop (.fork (.hd 0) (.hd 0))) (.hd 1))) (.f (.fork (.fork .stop (.fork (.hd 0) (.hd 0))) (.hd 1)))) (.fork (.fork .stop (.fork (.hd 0) (.hd 0))) (.hd 1)))) (.fork .stop (.fork (.hd 0) (.hd 0)))) (V:=vq45 g W B q m ws ch i l k a) hmG (fun G R=>by kernel_rfl) ?_
      unfold vq45
      try dsimp only
      simp only[Ty.dflt,hk1,hii,hxx,take_len,List.drop_zero,List.take_length,Mi_getD,Mi_len,Nt_Mi,Int.toNat_natCast,Mi_set,Nat.zero_add,Nat.sub_zero,List.length_set,take_one,takeSn,List.take_zero,List.nil_append,List.length_append,List.length_cons,List.length_nil,Mi_take,hh',ofN_one,e1,e2,e3,w2,w3,w4,w8,w10,Bool.not_true]
      simp (disch:=omega) only[oo,oop,ne_eq,Ty.dflt,reduceCtorEq]
      repeat' (first|with_reducible refine And.intro ?_ ?_|intro _)
      all_goals first|rfl|omega|assumption|trivial|(exfalso;simp_all;done)|(exfalso;omega)|skip
end Go.Proofs.YtnakmganodkliaaDoorAm
set_option maxRecDepth 100000
namespace Go.Proofs.YtnakmganodkliaaDoorAm
open Go
theorem e92b (g:Gr) (W:List (List Int)) (B:List (List (Int×Int))) (q:List Nat) (ws:List (List Int)) (r:List Nat×Bool) (n:Nat) (hBl:B.length≤1000000) (hB:∀l∈B,l.length≤8796093022208∧∀x∈l,0≤x.1∧x.1<n) (mE:List Nat) (stE:Int) (hsE:Smalls mE)
  (h2:stE=2→r=(mE,false)) (h0:stE=0→r=(mE,true)) (h1a:stE=1→narO ⟨g,W,mE⟩=false→r=(narM ⟨g,W,mE⟩,false)) (h1b:stE=1→narO ⟨g,W,mE⟩=true→GetsK Tryd.prog Tryd.f92.results.toList [none,none] (KK r92) 0 (.tup [.own 0 0 r.1.length none,.v (.bool r.2)],[],[.data 22 (.int .u64) (Mi r.1)]) 0 (stOf 105 [2,8,9,11,34,35,36] [slBd B,.ptr 0 0 0,.ptr 1 0 0,.v (.bool false),slBd B,.v (.int .i64 B.length),.v (.int .i64 0)] [.live (.box 73 [.v (.int .i64 g.h),.v (.int .i64 g.w),.sl false false .bool g.B,.sl false false .bool g.R,.sl false false .bool g.L,slW W,.own 2 0 mE.length none]),.live (.box 151 [.own 3 0 (narM ⟨g,W,mE⟩).length none,.own 4 0 (narW ⟨g,W,mE⟩).length none,.v (.bool true)]),.live (.data 22 (.int .u64) (Mi mE)),.live (.data 22 (.int .u64) (Mi (narM ⟨g,W,mE⟩))),.live (.nest kW (narW ⟨g,W,mE⟩) none)])) (z:Nat):∀(i:Int) (m:List Nat) (st:Int) (ch:Bool),0≤i→i+z=B.length→Smalls m→m.length=n→(ch=true∧st=1∨ch=false∧st=0)→passF (B.drop i.toNat) m st=(mE,stE)→GetsK Tryd.prog Tryd.f92.results.toList [none,none] (KK r92) 0 (.tup [.own 0 0 r.1.length none,.v (.bool r.2)],[],[.data 22 (.int .u64) (Mi r.1)]) 0 (stOf 105 [2,8,9,11,34,35,36] [slBd B,.ptr 0 0 0,.ptr 1 0 0,.v (.bool ch),slBd B,.v (.int .i64 B.length),.v (.int .i64 i)] [.live (.box 73 [.v (.int .i64 g.h),.v (.int .i64 g.w),.sl false false .bool g.B,.sl false false .bool g.R,.sl false false .bool g.L,slW W,.own 2 0 q.length none]),.live (.box 151 [.own 3 0 m.length none,.own 4 0 ws.length none,.v (.bool true)]),.live (.data 22 (.int .u64) (Mi q)),.live (.data 22 (.int .u64) (Mi m)),.live (.nest kW ws none)]):=by
 induction z with
 |zero=>
  intro i m st ch i0 hi hm hl hc hp
  rw[List.drop_eq_nil_of_le (by omega)] at hp
  simp only[passF,Prod.mk.injEq] at hp
  obtain⟨rfl,rfl⟩:=hp
  rcases hc with⟨rfl,rfl⟩|⟨rfl,rfl⟩
  ·have c59:=d59 g W m hm
   refine gets_vc spR (fun k=> [[2,8,9,11,34,35,36],[2,8,9,11,14,15,34,35,36,41,42,43]].getD k []) (fun _=> []) 400 (.fork (.hd 1) (.fork (.fork .stop (.hd 0)) .stop)) (V:=fun G R=>let yy0:=(Pr.mk g W (Nt (List.take m.length (List.drop 0 (Mi m)))));let yy1:=(Ty.int .i64);let yy2:=(Value.int .i64 (0:Int));let yy3:=(Ty.int .u64);(decide (i< (↑B.length:Int))=true→(0:Int)≤i∧i< (↑B.length:Int)∧SameK (KK r92 1) (KK r92 1)∧G 1 (stOf 105 [2,8,9,11,14,15,34,35,36,41,42,43] [D.sl false false (yy1.prod yy1).sl B,D.ptr 0 0 0,D.ptr 1 0 0,D.v (Value.bool true),D.v yy2,D.ptr 2 0 0,D.sl false false (yy1.prod yy1).sl B,D.v (Value.int .i64 (↑B.length:Int)),D.v (Value.int .i64 i),D.sl false false (yy1.prod yy1) (B.getD i.toNat (yy1.prod yy1).sl.dflt),D.v (Value.int .i64 (↑(List.length (B.getD i.toNat (yy1.prod yy1).sl.dflt)):Int)),D.v yy2] [Slot.live (Row.box 73 [D.v (Value.int .i64 g.h),D.v (Value.int .i64 g.w),D.sl false false Ty.bool g.B,D.sl false false Ty.bool g.R,D.sl false false Ty.bool g.L,D.sl false false yy1.sl W,D.own 3 0 q.length none]),Slot.live (Row.box 151 [D.own 4 0 m.length none,D.own 5 0 ws.length none,D.v (Value.bool true)]),Slot.live (Row.box 92 [D.v yy2,D.v yy2]),Slot.live (Row.data 22 yy3 (Mi q)),Slot.live (Row.data 22 yy3 (Mi m)),Slot.live (Row.nest (NK.mk 27 yy1.sl 0 3 yy1) ws none)]))∧(decide (i< (↑B.length:Int))=false→(true=true→Con Tryd.prog 123 [] [D.agg [D.v (Value.int .i64 yy0.g.h),D.v (Value.int .i64 yy0.g.w),D.sl false false Ty.bool yy0.g.B,D.sl false false Ty.bool yy0.g.R,D.sl false false Ty.bool yy0.g.L,D.sl false false yy1.sl yy0.W,D.sl false false yy3 (Mi yy0.M)]] (D.tup [D.agg [D.own 0 0 (narM yy0).length none,D.own 1 0 (narW yy0).length none,D.v (Value.bool (narO yy0))],D.v (Value.int .i64 (checkP yy0))]) [] [Row.data 22 yy3 (Mi (narM yy0)),Row.nest (NK.mk 27 yy1.sl 0 3 yy1) (narW yy0) none]∧Value.int .i64 g.h=Value.int .i64 yy0.g.h∧Value.int .i64 g.w=Value.int .i64 yy0.g.w∧g.B=yy0.g.B∧g.R=yy0.g.R∧g.L=yy0.g.L∧W=yy0.W∧List.take m.length (List.drop 0 (Mi m))=Mi yy0.M∧((!narO yy0)=true→R (D.tup [D.own 0 0 (narM yy0).length none,D.v (Value.bool false)],[],[Row.data 22 yy3 (Mi (narM yy0))]))∧((!narO yy0)=false→SameK (KK r92 0) (KK r92 0)∧G 0 (stOf 105 [2,8,9,11,34,35,36] [D.sl false false (yy1.prod yy1).sl B,D.ptr 0 0 0,D.ptr 1 0 0,D.v (Value.bool false),D.sl false false (yy1.prod yy1).sl B,D.v (Value.int .i64 (↑B.length:Int)),D.v yy2] [Slot.live (Row.box 73 [D.v (Value.int .i64 g.h),D.v (Value.int .i64 g.w),D.sl false false Ty.bool g.B,D.sl false false Ty.bool g.R,D.sl false false Ty.bool g.L,D.sl false false yy1.sl W,D.own 2 0 m.length none]),Slot.live (Row.box 151 [D.own 3 0 (narM yy0).length none,D.own 4 0 (narW yy0).length none,D.v (Value.bool (narO yy0))]),Slot.live (Row.data 22 yy3 (Mi m)),Slot.live (Row.data 22 yy3 (Mi (narM yy0))),Slot.live (Row.nest (NK.mk 27 yy1.sl 0 3 yy1) (narW yy0) none)])))∧(true=false→R (D.tup [D.own 0 0 m.length none,D.v (Value.bool true)],[],[Row.data 22 yy3 (Mi m)])))) hmG (fun G R=>by kernel_rfl) ?_
   try dsimp only
   simp only[narVal] at c59
   simp only[take_len,List.drop_zero,List.take_length,Mi_getD,Mi_len,Nt_Mi,Int.toNat_natCast,Mi_set,Nat.zero_add,Nat.sub_zero,List.length_set,take_one,takeSn,List.take_zero,List.nil_append,List.length_append,List.length_cons,List.length_nil,Mi_take]
   cases ho:narO ⟨g,W,m⟩ with
   |false=>
    have hr:=h1a rfl ho
    subst hr
    rw[ho] at c59
    simp (disch:=omega) only[oo,oop,ne_eq,Ty.dflt,reduceCtorEq]
    repeat' (first|with_reducible refine And.intro ?_ ?_|intro _)
    all_goals first|rfl|omega|assumption|trivial|(exfalso;simp_all;done)|(exfalso;omega)|skip
   |true=>
    have hg:=h1b rfl ho
    rw[ho] at c59
    simp (disch:=omega) only[oo,oop,ne_eq,Ty.dflt,reduceCtorEq]
    repeat' (first|with_reducible refine And.intro ?_ ?_|intro _)
    all_goals first|rfl|omega|assumption|trivial|(exfalso;simp_all;done)|(exfalso;omega)|skip
  ·have hr:=h0 rfl
   subst hr
   refine gets_vc spR (fun k=> [[2,8,9,11,34,35,36],[2,8,9,11,14,15,34,35,36,41,42,43]].getD k []) (fun _=> []) 400 (.fork (.hd 1) (.fork (.fork .stop (.hd 0)) .stop)) (V:=fun G R=>let yy0:=(Pr.mk g W (Nt (List.take m.length (List.drop 0 (Mi m)))));let yy1:=(Ty.int .i64);let yy2:=(Value.int .i64 (0:Int));let yy3:=(Ty.int .u64);(decide (i< (↑B.length:Int))=true→(0:Int)≤i∧i< (↑B.length:Int)∧SameK (KK r92 1) (KK r92 1)∧G 1 (stOf 105 [2,8,9,11,14,15,34,35,36,41,42,43] [D.sl false false (yy1.prod yy1).sl B,D.ptr 0 0 0,D.ptr 1 0 0,D.v (Value.bool false),D.v yy2,D.ptr 2 0 0,D.sl false false (yy1.prod yy1).sl B,D.v (Value.int .i64 (↑B.length:Int)),D.v (Value.int .i64 i),D.sl false false (yy1.prod yy1) (B.getD i.toNat (yy1.prod yy1).sl.dflt),D.v (Value.int .i64 (↑(List.length (B.getD i.toNat (yy1.prod yy1).sl.dflt)):Int)),D.v yy2] [Slot.live (Row.box 73 [D.v (Value.int .i64 g.h),D.v (Value.int .i64 g.w),D.sl false false Ty.bool g.B,D.sl false false Ty.bool g.R,D.sl false false Ty.bool g.L,D.sl false false yy1.sl W,D.own 3 0 q.length none]),Slot.live (Row.box 151 [D.own 4 0 m.length none,D.own 5 0 ws.length none,D.v (Value.bool true)]),Slot.live (Row.box 92 [D.v yy2,D.v yy2]),Slot.live (Row.data 22 yy3 (Mi q)),Slot.live (Row.data 22 yy3 (Mi m)),Slot.live (Row.nest (NK.mk 27 yy1.sl 0 3 yy1) ws none)]))∧(decide (i< (↑B.length:Int))=false→(false=true→Con Tryd.prog 123 [] [D.agg [D.v (Value.int .i64 yy0.g.h),D.v (Value.int .i64 yy0.g.w),D.sl false false Ty.bool yy0.g.B,D.sl false false Ty.bool yy0.g.R,D.sl false false Ty.bool yy0.g.L,D.sl false false yy1.sl yy0.W,D.sl false false yy3 (Mi yy0.M)]] (D.tup [D.agg [D.own 0 0 (narM yy0).length none,D.own 1 0 (narW yy0).length none,D.v (Value.bool (narO yy0))],D.v (Value.int .i64 (checkP yy0))]) [] [Row.data 22 yy3 (Mi (narM yy0)),Row.nest (NK.mk 27 yy1.sl 0 3 yy1) (narW yy0) none]∧Value.int .i64 g.h=Value.int .i64 yy0.g.h∧Value.int .i64 g.w=Value.int .i64 yy0.g.w∧g.B=yy0.g.B∧g.R=yy0.g.R∧g.L=yy0.g.L∧W=yy0.W∧List.take m.length (List.drop 0 (Mi m))=Mi yy0.M∧((!narO yy0)=true→R (D.tup [D.own 0 0 (narM yy0).length none,D.v (Value.bool false)],[],[Row.data 22 yy3 (Mi (narM yy0))]))∧((!narO yy0)=false→SameK (KK r92 0) (KK r92 0)∧G 0 (stOf 105 [2,8,9,11,34,35,36] [D.sl false false (yy1.prod yy1).sl B,D.ptr 0 0 0,D.ptr 1 0 0,D.v (Value.bool false),D.sl false false (yy1.prod yy1).sl B,D.v (Value.int .i64 (↑B.length:Int)),D.v yy2] [Slot.live (Row.box 73 [D.v (Value.int .i64 g.h),D.v (Value.int .i64 g.w),D.sl false false Ty.bool g.B,D.sl false false Ty.bool g.R,D.sl false false Ty.bool g.L,D.sl false false yy1.sl W,D.own 2 0 m.length none]),Slot.live (Row.box 151 [D.own 3 0 (narM yy0).length none,D.own 4 0 (narW yy0).length none,D.v (Value.bool (narO yy0))]),Slot.live (Row.data 22 yy3 (Mi m)),Slot.live (Row.data 22 yy3 (Mi (narM yy0))),Slot.live (Row.nest (NK.mk 27 yy1.sl 0 3 yy1) (narW yy0) none)])))∧(false=false→R (D.tup [D.own 0 0 m.length none,D.v (Value.bool true)],[],[Row.data 22 yy3 (Mi m)])))) hmG (fun G R=>by kernel_rfl) ?_
   try dsimp only
   simp (disch:=omega) only[oo,oop,ne_eq,Ty.dflt,reduceCtorEq]
   repeat' (first|with_reducible refine And.intro ?_ ?_|intro _)
   all_goals first|rfl|omega|assumption|trivial|(exfalso;simp_all;done)|(exfalso;omega)|skip
 |succ z ih=>
  intro i m st ch i0 hi hm hl hc hp
  have hk1:IntKind.i64.wrap (i+1)=i+1:=wrG (by omega) (by omega)
  have hxm:=getD_in (d:=([]:List (Int×Int))) (k:=i.toNat) (l:=B) (by omega)
  have hx:=hB _ hxm
  rw[drop_at (xs:=B) (i:=i) ([]:List (Int×Int)) i0 (by omega),pass_cons] at hp
  obtain⟨l,hll⟩:∃l,B.getD i.toNat []=l:=⟨_,rfl⟩
  rw[hll] at hx hp
  have hg:=e92c g W B q m ws ch i r l hm hx.1 (fun x h=>by have:=hx.2 x h;omega) hk1 (unitF m l)
   (fun e=>by
    rw[if_pos e] at hp
    simp only[Prod.mk.injEq] at hp
    rw[hp.1]
    exact h2 hp.2.symm)
   (fun e=>by
    rw[if_neg (by omega),if_pos e] at hp
    exact ih (i+1) _ 1 true (by omega) (by omega) (letgo_small hm _) (by rw[letgo_len];exact hl) (Or.inl ⟨rfl,rfl⟩) hp)
   (fun e=>by
    rw[if_neg (by omega),if_neg (by omega)] at hp
    exact ih (i+1) m st ch (by omega) (by omega) hm hl hc hp)
   l.length 0 0 (0,0) (by omega) (by omega) (Or.inl rfl) rfl
  refine gets_vc spR (fun k=> [[2,8,9,11,34,35,36],[2,8,9,11,14,15,34,35,36,41,42,43]].getD k []) (fun _=> []) 400 (.fork (.hd 1) (.fork (.fork .stop (.hd 0)) .stop)) (V:=fun G R=>let yy0:=(Pr.mk g W (Nt (List.take m.length (List.drop 0 (Mi m)))));let yy1:=(Ty.int .i64);let yy2:=(Value.int .i64 (0:Int));let yy3:=(Ty.int .u64);(decide (i< (↑B.length:Int))=true→(0:Int)≤i∧i< (↑B.length:Int)∧SameK (KK r92 1) (KK r92 1)∧G 1 (stOf 105 [2,8,9,11,14,15,34,35,36,41,42,43] [D.sl false false (yy1.prod yy1).sl B,D.ptr 0 0 0,D.ptr 1 0 0,D.v (Value.bool ch),D.v yy2,D.ptr 2 0 0,D.sl false false (yy1.prod yy1).sl B,D.v (Value.int .i64 (↑B.length:Int)),D.v (Value.int .i64 i),D.sl false false (yy1.prod yy1) (B.getD i.toNat (yy1.prod yy1).sl.dflt),D.v (Value.int .i64 (↑(List.length (B.getD i.toNat (yy1.prod yy1).sl.dflt)):Int)),D.v yy2] [Slot.live (Row.box 73 [D.v (Value.int .i64 g.h),D.v (Value.int .i64 g.w),D.sl false false Ty.bool g.B,D.sl false false Ty.bool g.R,D.sl false false Ty.bool g.L,D.sl false false yy1.sl W,D.own 3 0 q.length none]),Slot.live (Row.box 151 [D.own 4 0 m.length none,D.own 5 0 ws.length none,D.v (Value.bool true)]),Slot.live (Row.box 92 [D.v yy2,D.v yy2]),Slot.live (Row.data 22 yy3 (Mi q)),Slot.live (Row.data 22 yy3 (Mi m)),Slot.live (Row.nest (NK.mk 27 yy1.sl 0 3 yy1) ws none)]))∧(decide (i< (↑B.length:Int))=false→(ch=true→Con Tryd.prog 123 [] [D.agg [D.v (Value.int .i64 yy0.g.h),D.v (Value.int .i64 yy0.g.w),D.sl false false Ty.bool yy0.g.B,D.sl false false Ty.bool yy0.g.R,D.sl false false Ty.bool yy0.g.L,D.sl false false yy1.sl yy0.W,D.sl false false yy3 (Mi yy0.M)]] (D.tup [D.agg [D.own 0 0 (narM yy0).length none,D.own 1 0 (narW yy0).length none,D.v (Value.bool (narO yy0))],D.v (Value.int .i64 (checkP yy0))]) [] [Row.data 22 yy3 (Mi (narM yy0)),Row.nest (NK.mk 27 yy1.sl 0 3 yy1) (narW yy0) none]∧Value.int .i64 g.h=Value.int .i64 yy0.g.h∧Value.int .i64 g.w=Value.int .i64 yy0.g.w∧g.B=yy0.g.B∧g.R=yy0.g.R∧g.L=yy0.g.L∧W=yy0.W∧List.take m.length (List.drop 0 (Mi m))=Mi yy0.M∧((!narO yy0)=true→R (D.tup [D.own 0 0 (narM yy0).length none,D.v (Value.bool false)],[],[Row.data 22 yy3 (Mi (narM yy0))]))∧((!narO yy0)=false→SameK (KK r92 0) (KK r92 0)∧G 0 (stOf 105 [2,8,9,11,34,35,36] [D.sl false false (yy1.prod yy1).sl B,D.ptr 0 0 0,D.ptr 1 0 0,D.v (Value.bool false),D.sl false false (yy1.prod yy1).sl B,D.v (Value.int .i64 (↑B.length:Int)),D.v yy2] [Slot.live (Row.box 73 [D.v (Value.int .i64 g.h),D.v (Value.int .i64 g.w),D.sl false false Ty.bool g.B,D.sl false false Ty.bool g.R,D.sl false false Ty.bool g.L,D.sl false false yy1.sl W,D.own 2 0 m.length none]),Slot.live (Row.box 151 [D.own 3 0 (narM yy0).length none,D.own 4 0 (narW yy0).length none,D.v (Value.bool (narO yy0))]),Slot.live (Row.data 22 yy3 (Mi m)),Slot.live (Row.data 22 yy3 (Mi (narM yy0))),Slot.live (Row.nest (NK.mk 27 yy1.sl 0 3 yy1) (narW yy0) none)])))∧(ch=false→R (D.tup [D.own 0 0 m.length none,D.v (Value.bool true)],[],[Row.data 22 yy3 (Mi m)])))) hmG (fun G R=>by kernel_rfl) ?_
  try dsimp only
  simp only[Ty.dflt,hll]
  simp (disch:=omega) only[oo,oop,ne_eq,Ty.dflt,reduceCtorEq]
  repeat' (first|with_reducible refine And.intro ?_ ?_|intro _)
  all_goals first|rfl|omega|assumption|trivial|(exfalso;simp_all;done)|(exfalso;omega)|skip
theorem e92a (g:Gr) (W:List (List Int)) (B:List (List (Int×Int))) (n:Nat) (hBl:B.length≤1000000) (hB:∀l∈B,l.length≤8796093022208∧∀x∈l,0≤x.1∧x.1<n) (fu:Nat):∀q:List Nat,q.sum<fu→Smalls q→q.length=n→checkP ⟨g,W,q⟩=0→narO ⟨g,W,q⟩=true→∀r,r=spreadF g W B fu q→GetsK Tryd.prog Tryd.f92.results.toList [none,none] (KK r92) 0 (.tup [.own 0 0 r.1.length none,.v (.bool r.2)],[],[.data 22 (.int .u64) (Mi r.1)]) 0 (stOf 105 [2,8,9,11,34,35,36] [slBd B,.ptr 0 0 0,.ptr 1 0 0,.v (.bool false),slBd B,.v (.int .i64 B.length),.v (.int .i64 0)] [.live (.box 73 [.v (.int .i64 g.h),.v (.int .i64 g.w),.sl false false .bool g.B,.sl false false .bool g.R,.sl false false .bool g.L,slW W,.own 2 0 q.length none]),.live (.box 151 [.own 3 0 (narM ⟨g,W,q⟩).length none,.own 4 0 (narW ⟨g,W,q⟩).length none,.v (.bool true)]),.live (.data 22 (.int .u64) (Mi q)),.live (.data 22 (.int .u64) (Mi (narM ⟨g,W,q⟩))),.live (.nest kW (narW ⟨g,W,q⟩) none)]):=by
 induction fu with
 |zero=>intro q h;omega
 |succ fu ih=>
  intro q hs hq hl hc ho r hr
  have hns:=nar_small hc hq
  have hnl:=narM_len _ hc
  simp only at hnl
  have hsum:(narM ⟨g,W,q⟩).sum≤q.sum:=by
   refine sum_le hnl fun c=>sub_le fun i hi=> ?_
   exact(nar_given hc) c i hi
  obtain⟨f1,f2,f3,f4⟩:=pass_facts n B (narM ⟨g,W,q⟩) 0 (fun l hl x hx=>(hB l hl).2 x hx) (by omega) hns
  simp only[spreadF,ho,if_true] at hr
  obtain⟨mE,stE,hE⟩:∃mE stE,passF B (narM ⟨g,W,q⟩) 0=(mE,stE):=⟨_,_,rfl⟩
  rw[hE] at hr f1 f2 f3 f4
  simp only at hr f1 f2 f3 f4
  have hcE:checkP ⟨g,W,mE⟩=0:=by rw[again_check (p:=⟨g,W,q⟩) (by simp only;omega)];exact hc
  refine e92b g W B q _ r n hBl hB mE stE f2 (fun e=>by rw[hr,if_pos e]) (fun e=>by rw[hr,if_neg (by omega),if_neg (by omega)]) (fun e hn=> ?_) (fun e hn=> ?_) B.length 0 _ 0 false (by omega) (by omega) hns (by omega) (Or.inr ⟨rfl,rfl⟩) hE
  ·have h4:=f4 trivial e
   rw[hr,if_neg (by omega),if_pos e]
   cases fu with
   |zero=>omega
   |succ fu=>
    simp only[spreadF,hn,Bool.false_eq_true,if_false]
  ·have h4:=f4 trivial e
   exact ih mE (by omega) f2 f1 hcE hn r (by rw[hr,if_neg (by omega),if_pos e])
theorem d92 (g:Gr) (W:List (List Int)) (M:List Nat) (F:List (Int×Int)) (B:List (List (Int×Int))) (hc:checkP ⟨g,W,M⟩=0) (hM:Smalls M) (hFl:F.length≤8796093022208) (hF:∀x∈F,0≤x.1∧x.1<M.length) (hBl:B.length≤1000000) (hB:∀l∈B,l.length≤8796093022208∧∀x∈l,0≤x.1∧x.1<M.length):Con Tryd.prog 92 [] [.agg [.v (.int .i64 g.h),.v (.int .i64 g.w),.sl false false .bool g.B,.sl false false .bool g.R,.sl false false .bool g.L,slW W,slU M],slQ F,slBd B] (.tup [.own 0 0 (spreadG ⟨g,W,M⟩ F B).1.length none,.v (.bool (spreadG ⟨g,W,M⟩ F B).2)]) [] [.data 22 (.int .u64) (Mi (spreadG ⟨g,W,M⟩ F B).1)]:=by
 refine con_vc (how:=[none,none]) (c:=r92) (K:=(KK r92)) spR (fun k=> [[2,8,9,11,34,35,36],[2,8,9,11,14,15,34,35,36,41,42,43]].getD k []) (fun _=> []) 400 (.fork .stop (.hd 0)) (V:=fun G R=>let yy0:=(Pr.mk g W (Nt (List.take (Pr.mk g W (Nt (Mi M))).M.length (List.drop 0 (Mi (givenF F (Pr.mk g W (Nt (Mi M))).M))))));let yy1:=(Pr.mk g W (Nt (Mi M)));let yy2:=(Ty.int .i64);let yy3:=(Ty.int .u64);Con Tryd.prog 122 [] [D.agg [D.v (Value.int .i64 yy1.g.h),D.v (Value.int .i64 yy1.g.w),D.sl false false Ty.bool yy1.g.B,D.sl false false Ty.bool yy1.g.R,D.sl false false Ty.bool yy1.g.L,D.sl false false yy2.sl yy1.W,D.sl false false yy3 (Mi yy1.M)],D.sl false false (yy2.prod yy2) F] (D.own 0 0 yy1.M.length none) [] [Row.data 22 yy3 (Mi (givenF F yy1.M))]∧Value.int .i64 g.h=Value.int .i64 yy1.g.h∧Value.int .i64 g.w=Value.int .i64 yy1.g.w∧g.B=yy1.g.B∧g.R=yy1.g.R∧g.L=yy1.g.L∧W=yy1.W∧Mi M=Mi yy1.M∧F=F∧Con Tryd.prog 123 [] [D.agg [D.v (Value.int .i64 yy0.g.h),D.v (Value.int .i64 yy0.g.w),D.sl false false Ty.bool yy0.g.B,D.sl false false Ty.bool yy0.g.R,D.sl false false Ty.bool yy0.g.L,D.sl false false yy2.sl yy0.W,D.sl false false yy3 (Mi yy0.M)]] (D.tup [D.agg [D.own 0 0 (narM yy0).length none,D.own 1 0 (narW yy0).length none,D.v (Value.bool (narO yy0))],D.v (Value.int .i64 (checkP yy0))]) [] [Row.data 22 yy3 (Mi (narM yy0)),Row.nest (NK.mk 27 yy2.sl 0 3 yy2) (narW yy0) none]∧Value.int .i64 g.h=Value.int .i64 yy0.g.h∧Value.int .i64 g.w=Value.int .i64 yy0.g.w∧g.B=yy0.g.B∧g.R=yy0.g.R∧g.L=yy0.g.L∧W=yy0.W∧List.take yy1.M.length (List.drop 0 (Mi (givenF F yy1.M)))=Mi yy0.M∧((!narO yy0)=true→R (D.tup [D.own 0 0 (narM yy0).length none,D.v (Value.bool false)],[],[Row.data 22 yy3 (Mi (narM yy0))]))∧((!narO yy0)=false→SameK (KK r92 0) (KK r92 0)∧G 0 (stOf 105 [2,8,9,11,34,35,36] [D.sl false false (yy2.prod yy2).sl B,D.ptr 0 0 0,D.ptr 1 0 0,D.v (Value.bool false),D.sl false false (yy2.prod yy2).sl B,D.v (Value.int .i64 (↑B.length:Int)),D.v (Value.int .i64 (0:Int))] [Slot.live (Row.box 73 [D.v (Value.int .i64 g.h),D.v (Value.int .i64 g.w),D.sl false false Ty.bool g.B,D.sl false false Ty.bool g.R,D.sl false false Ty.bool g.L,D.sl false false yy2.sl W,D.own 2 0 yy1.M.length none]),Slot.live (Row.box 151 [D.own 3 0 (narM yy0).length none,D.own 4 0 (narW yy0).length none,D.v (Value.bool (narO yy0))]),Slot.live (Row.data 22 yy3 (Mi (givenF F yy1.M))),Slot.live (Row.data 22 yy3 (Mi (narM yy0))),Slot.live (Row.nest (NK.mk 27 yy2.sl 0 3 yy2) (narW yy0) none)]))) hmG Tryd.func92 (by kernel_rfl) (by kernel_rfl) (fun G R=>by kernel_rfl) ?_
 try dsimp only
 try dsimp only
 have hMs:(M.length:Int)=g.h*g.w:=(checkP_zero hc).2.2.2
 have hMl:M.length≤300:=by
  have hw:=hw_in (chk0.1 (checkP_zero hc).1).1 (chk0.1 (checkP_zero hc).1).2.1
  simp only at hw
  omega
 have hM0:M≠ []:=by
  intro e
  have s1:=side_iff.1 (chk0.1 (checkP_zero hc).1).1
  have s2:=side_iff.1 (chk0.1 (checkP_zero hc).1).2.1
  simp only at s1 s2
  rw[e] at hMs
  have:0<g.h*g.w:=Int.mul_pos (by omega) (by omega)
  simp at hMs
  omega
 have hgs:=given_small F hM
 have hgl:=given_len F M
 have c1:=d122R g W M F hM hM0 (by omega) hFl hF
 have c59:=d59 g W (givenF F M) hgs
 have hcq:checkP ⟨g,W,givenF F M⟩=0:=by rw[again_check (p:=⟨g,W,M⟩) hgl];exact hc
 have hTk:List.take M.length (Mi (givenF F M))=Mi (givenF F M):=by rw[←hgl];exact Mi_take _
 simp only[narVal] at c59
 simp only[take_len,List.drop_zero,List.take_length,Mi_getD,Mi_len,Nt_Mi,Int.toNat_natCast,Mi_set,Nat.zero_add,Nat.sub_zero,List.length_set,take_one,takeSn,List.take_zero,List.nil_append,List.length_append,List.length_cons,List.length_nil,hTk]
 obtain⟨r,hr⟩:∃r,spreadG ⟨g,W,M⟩ F B=r:=⟨_,rfl⟩
 rw[hr]
 cases ho:narO ⟨g,W,givenF F M⟩ with
 |false=>
  have e:r=(narM ⟨g,W,givenF F M⟩,false):=by
   rw[←hr]
   simp only[spreadG,spreadF,ho,Bool.false_eq_true,if_false]
  rw[ho] at c59
  subst e
  simp (disch:=omega) only[oo,oop,ne_eq,Ty.dflt,reduceCtorEq]
  repeat' (first|with_reducible refine And.intro ?_ ?_|intro _)
  all_goals first|rfl|omega|assumption|trivial|(exfalso;simp_all;done)|(exfalso;omega)|skip
 |true=>
  have hg:=e92a g W B M.length hBl hB ((givenF F M).sum+1) (givenF F M) (by omega) hgs hgl hcq ho r hr.symm
  rw[ho] at c59
  rw[hgl] at hg
  simp (disch:=omega) only[oo,oop,ne_eq,Ty.dflt,reduceCtorEq]
  repeat' (first|with_reducible refine And.intro ?_ ?_|intro _)
  all_goals first|rfl|omega|assumption|trivial|(exfalso;simp_all;done)|(exfalso;omega)|skip
end Go.Proofs.YtnakmganodkliaaDoorAm
set_option maxRecDepth 100000
namespace Go.Proofs.YtnakmganodkliaaDoorAm
open Go
theorem sub_wrap {a b:Nat} (hb:b≤a) (ha:a<W64):IntKind.u64.wrap ((a:Int)-(b:Int))=((a-b:Nat):Int):=by
 rw[show((a:Int)-(b:Int))=((a-b:Nat):Int) by omega]
 exact wrU' (by omega)
theorem bitN_lt (y:Int):bitN y<W64:=by
 rw[←ofN_one]
 exact of_lt _ _ (by decide)
theorem right_fits {g:Gr} {W:List (List Int)} {M:List Nat} (hc:checkP ⟨g,W,M⟩=0) (hM:Smalls M):(Pr.mk g W M).fits∧M.length≤300∧M≠ []:=by
 obtain⟨h1,h2,h3,h4⟩:=checkP_zero hc
 simp only at h1 h2 h3 h4
 have hw:=hw_in (chk0.1 h1).1 (chk0.1 h1).2.1
 have sz:=size3 (chk0.1 h1).2.2.1
 have s1:=side_iff.1 (chk0.1 h1).1
 have s2:=side_iff.1 (chk0.1 h1).2.1
 have hpos:0<g.h*g.w:=Int.mul_pos (by omega) (by omega)
 refine⟨⟨⟨by simp only;omega,by simp only;omega,by simp only;omega⟩,by simp only;omega,fun w h=> ?_,by simp only;omega,hM⟩,by omega,fun e=> ?_⟩
 ·have:=(h3 w h).2.1
  omega
 ·rw[e] at h4
  simp at h4
  omega
theorem e94c (g:Gr) (W:List (List Int)) (B:List (List (Int×Int))) (n:Nat) (hBl:B.length≤1000000) (hB:∀l∈B,l.length≤8796093022208∧∀x∈l,0≤x.1∧x.1<n) (b:Bool) (mE:List Nat) (stE:Int) (h2:stE=2→b=true) (h0:stE=0→b=false) (h1:stE=1→GetsK Tryd.prog Tryd.f94.results.toList [none] (KK r94) 0 (.v (.bool b),[],[]) 1 (stOf 95 [2,7] [slBd B,.ptr 0 0 0] [.live (.box 73 [.v (.int .i64 g.h),.v (.int .i64 g.w),.own 1 0 g.B.length none,.own 2 0 g.R.length none,.own 3 0 g.L.length none,.own 4 0 W.length none,.own 5 0 mE.length none]),.live (.data 4 .bool g.B),.live (.data 4 .bool g.R),.live (.data 4 .bool g.L),.live (.data 27 WT W),.live (.data 22 (.int .u64) (Mi mE))])) (z:Nat):∀(i:Int) (m:List Nat) (st:Int) (ch:Bool),0≤i→i+z=B.length→Smalls m→m.length=n→(ch=true∧st=1∨ch=false∧st=0)→passF (B.drop i.toNat) m st=(mE,stE)→GetsK Tryd.prog Tryd.f94.results.toList [none] (KK r94) 0 (.v (.bool b),[],[]) 2 (stOf 95 [2,7,11,12] [slBd B,.ptr 0 0 0,.v (.bool ch),.v (.int .i64 i)] [.live (.box 73 [.v (.int .i64 g.h),.v (.int .i64 g.w),.own 1 0 g.B.length none,.own 2 0 g.R.length none,.own 3 0 g.L.length none,.own 4 0 W.length none,.own 5 0 m.length none]),.live (.data 4 .bool g.B),.live (.data 4 .bool g.R),.live (.data 4 .bool g.L),.live (.data 27 WT W),.live (.data 22 (.int .u64) (Mi m))]):=by
 induction z with
 |zero=>
  intro i m st ch i0 hi hm hl hc hp
  rw[List.drop_eq_nil_of_le (by omega)] at hp
  simp only[passF,Prod.mk.injEq] at hp
  obtain⟨rfl,rfl⟩:=hp
  rcases hc with⟨rfl,rfl⟩|⟨rfl,rfl⟩
  ·have hg:=h1 rfl
   refine gets_vc spR (fun k=> [[1,2,7,8],[2,7],[2,7,11,12]].getD k []) (fun _=> []) 400 (.fork (.fork .stop (.fork (.hd 2) (.hd 2))) (.fork .stop (.hd 1))) (V:=fun G R=>let yy0:=(unitF (Nt (List.take m.length (List.drop 0 (Mi m)))) (B.getD i.toNat ((Ty.int .i64).prod (Ty.int .i64)).sl.dflt));let yy1:=(Row.box 73 [D.v (Value.int .i64 g.h),D.v (Value.int .i64 g.w),D.own 1 0 g.B.length none,D.own 2 0 g.R.length none,D.own 3 0 g.L.length none,D.own 4 0 W.length none,D.own 5 0 m.length none]);let yy2:=(Ty.int .i64);let yy3:=(Ty.int .u64);(decide (i< (↑B.length:Int))=true→(0:Int)≤i∧i< (↑B.length:Int)∧Con Tryd.prog 126 [] [D.sl false false yy3 (Mi (Nt (List.take m.length (List.drop 0 (Mi m))))),D.sl false false (yy2.prod yy2) (B.getD i.toNat (yy2.prod yy2).sl.dflt)] (D.tup [D.v (Value.int .i64 yy0.fst),D.agg [D.v (Value.int .i64 yy0.snd.fst),D.v (Value.int .i64 yy0.snd.snd)]]) [] []∧List.take m.length (List.drop 0 (Mi m))=Mi (Nt (List.take m.length (List.drop 0 (Mi m))))∧B.getD i.toNat (yy2.prod yy2).sl.dflt=B.getD i.toNat (yy2.prod yy2).sl.dflt∧((yy0.fst==(2:Int))=true→R (D.v (Value.bool true),[],[]))∧((yy0.fst==(2:Int))=false→((yy0.fst==(1:Int))=true→(0:Int)≤yy0.snd.fst∧yy0.snd.fst< (↑m.length:Int)∧0+yy0.snd.fst.toNat< (Mi m).length∧Con Tryd.prog 74 [] [D.v (Value.int .i64 yy0.snd.snd)] (D.v (Value.int .u64 (↑(bitN yy0.snd.snd):Int))) [] []∧Value.int .i64 yy0.snd.snd=Value.int .i64 yy0.snd.snd∧(0:Int)≤yy0.snd.fst∧yy0.snd.fst< (↑m.length:Int)∧0+yy0.snd.fst.toNat< (Mi m).length∧SameK (KK r94 2) (KK r94 2)∧G 2 (stOf 95 [2,7,11,12] [D.sl false false (yy2.prod yy2).sl B,D.ptr 0 0 0,D.v (Value.bool true),D.v (Value.int .i64 (IntKind.i64.wrap (i+(1:Int))))] [Slot.live yy1,Slot.live (Row.data 4 Ty.bool g.B),Slot.live (Row.data 4 Ty.bool g.R),Slot.live (Row.data 4 Ty.bool g.L),Slot.live (Row.data 27 yy2.sl W),Slot.live (Row.data 22 yy3 ((Mi m).set (0+yy0.snd.fst.toNat) (IntKind.u64.wrap ((Mi m).getD (0+yy0.snd.fst.toNat) yy3.dflt-(↑(bitN yy0.snd.snd):Int)))))]))∧((yy0.fst==(1:Int))=false→SameK (KK r94 2) (KK r94 2)∧G 2 (stOf 95 [2,7,11,12] [D.sl false false (yy2.prod yy2).sl B,D.ptr 0 0 0,D.v (Value.bool true),D.v (Value.int .i64 (IntKind.i64.wrap (i+(1:Int))))] [Slot.live yy1,Slot.live (Row.data 4 Ty.bool g.B),Slot.live (Row.data 4 Ty.bool g.R),Slot.live (Row.data 4 Ty.bool g.L),Slot.live (Row.data 27 yy2.sl W),Slot.live (Row.data 22 yy3 (Mi m))]))))∧(decide (i< (↑B.length:Int))=false→((!true)=true→R (D.v (Value.bool false),[],[]))∧((!true)=false→SameK (KK r94 1) (KK r94 1)∧G 1 (stOf 95 [2,7] [D.sl false false (yy2.prod yy2).sl B,D.ptr 0 0 0] [Slot.live yy1,Slot.live (Row.data 4 Ty.bool g.B),Slot.live (Row.data 4 Ty.bool g.R),Slot.live (Row.data 4 Ty.bool g.L),Slot.live (Row.data 27 yy2.sl W),Slot.live (Row.data 22 yy3 (Mi m))])))) hmG (fun G R=>by kernel_rfl) ?_
   try dsimp only
   simp only[Bool.not_true]
   simp (disch:=omega) only[oo,oop,ne_eq,Ty.dflt,reduceCtorEq]
   repeat' (first|with_reducible refine And.intro ?_ ?_|intro _)
   all_goals first|rfl|omega|assumption|trivial|(exfalso;simp_all;done)|(exfalso;omega)|skip
  ·have hb:=h0 rfl
   subst hb
   refine gets_vc spR (fun k=> [[1,2,7,8],[2,7],[2,7,11,12]].getD k []) (fun _=> []) 400 (.fork (.fork .stop (.fork (.hd 2) (.hd 2))) (.fork .stop (.hd 1))) (V:=fun G R=>let yy0:=(unitF (Nt (List.take m.length (List.drop 0 (Mi m)))) (B.getD i.toNat ((Ty.int .i64).prod (Ty.int .i64)).sl.dflt));let yy1:=(Row.box 73 [D.v (Value.int .i64 g.h),D.v (Value.int .i64 g.w),D.own 1 0 g.B.length none,D.own 2 0 g.R.length none,D.own 3 0 g.L.length none,D.own 4 0 W.length none,D.own 5 0 m.length none]);let yy2:=(Ty.int .i64);let yy3:=(Ty.int .u64);(decide (i< (↑B.length:Int))=true→(0:Int)≤i∧i< (↑B.length:Int)∧Con Tryd.prog 126 [] [D.sl false false yy3 (Mi (Nt (List.take m.length (List.drop 0 (Mi m))))),D.sl false false (yy2.prod yy2) (B.getD i.toNat (yy2.prod yy2).sl.dflt)] (D.tup [D.v (Value.int .i64 yy0.fst),D.agg [D.v (Value.int .i64 yy0.snd.fst),D.v (Value.int .i64 yy0.snd.snd)]]) [] []∧List.take m.length (List.drop 0 (Mi m))=Mi (Nt (List.take m.length (List.drop 0 (Mi m))))∧B.getD i.toNat (yy2.prod yy2).sl.dflt=B.getD i.toNat (yy2.prod yy2).sl.dflt∧((yy0.fst==(2:Int))=true→R (D.v (Value.bool true),[],[]))∧((yy0.fst==(2:Int))=false→((yy0.fst==(1:Int))=true→(0:Int)≤yy0.snd.fst∧yy0.snd.fst< (↑m.length:Int)∧0+yy0.snd.fst.toNat< (Mi m).length∧Con Tryd.prog 74 [] [D.v (Value.int .i64 yy0.snd.snd)] (D.v (Value.int .u64 (↑(bitN yy0.snd.snd):Int))) [] []∧Value.int .i64 yy0.snd.snd=Value.int .i64 yy0.snd.snd∧(0:Int)≤yy0.snd.fst∧yy0.snd.fst< (↑m.length:Int)∧0+yy0.snd.fst.toNat< (Mi m).length∧SameK (KK r94 2) (KK r94 2)∧G 2 (stOf 95 [2,7,11,12] [D.sl false false (yy2.prod yy2).sl B,D.ptr 0 0 0,D.v (Value.bool true),D.v (Value.int .i64 (IntKind.i64.wrap (i+(1:Int))))] [Slot.live yy1,Slot.live (Row.data 4 Ty.bool g.B),Slot.live (Row.data 4 Ty.bool g.R),Slot.live (Row.data 4 Ty.bool g.L),Slot.live (Row.data 27 yy2.sl W),Slot.live (Row.data 22 yy3 ((Mi m).set (0+yy0.snd.fst.toNat) (IntKind.u64.wrap ((Mi m).getD (0+yy0.snd.fst.toNat) yy3.dflt-(↑(bitN yy0.snd.snd):Int)))))]))∧((yy0.fst==(1:Int))=false→SameK (KK r94 2) (KK r94 2)∧G 2 (stOf 95 [2,7,11,12] [D.sl false false (yy2.prod yy2).sl B,D.ptr 0 0 0,D.v (Value.bool false),D.v (Value.int .i64 (IntKind.i64.wrap (i+(1:Int))))] [Slot.live yy1,Slot.live (Row.data 4 Ty.bool g.B),Slot.live (Row.data 4 Ty.bool g.R),Slot.live (Row.data 4 Ty.bool g.L),Slot.live (Row.data 27 yy2.sl W),Slot.live (Row.data 22 yy3 (Mi m))]))))∧(decide (i< (↑B.length:Int))=false→((!false)=true→R (D.v (Value.bool false),[],[]))∧((!false)=false→SameK (KK r94 1) (KK r94 1)∧G 1 (stOf 95 [2,7] [D.sl false false (yy2.prod yy2).sl B,D.ptr 0 0 0] [Slot.live yy1,Slot.live (Row.data 4 Ty.bool g.B),Slot.live (Row.data 4 Ty.bool g.R),Slot.live (Row.data 4 Ty.bool g.L),Slot.live (Row.data 27 yy2.sl W),Slot.live (Row.data 22 yy3 (Mi m))])))) hmG (fun G R=>by kernel_rfl) ?_
   try dsimp only
   simp only[Bool.not_false]
   simp (disch:=omega) only[oo,oop,ne_eq,Ty.dflt,reduceCtorEq]
   repeat' (first|with_reducible refine And.intro ?_ ?_|intro _)
   all_goals first|rfl|omega|assumption|trivial|(exfalso;simp_all;done)|(exfalso;omega)|skip
 |succ z ih=>
  intro i m st ch i0 hi hm hl hc hp
  have hk1:IntKind.i64.wrap (i+1)=i+1:=wrG (by omega) (by omega)
  have hxm:=getD_in (d:=([]:List (Int×Int))) (k:=i.toNat) (l:=B) (by omega)
  have hx:=hB _ hxm
  rw[drop_at (xs:=B) (i:=i) ([]:List (Int×Int)) i0 (by omega),pass_cons] at hp
  obtain⟨l,hll⟩:∃l,B.getD i.toNat []=l:=⟨_,rfl⟩
  rw[hll] at hx hp
  have c1:=d126R m l hm hx.1 (fun x h=>by have:=hx.2 x h;omega)
  obtain⟨u,hu⟩:∃u,unitF m l=u:=⟨_,rfl⟩
  have hu1:=fun(e:(unitF m l).1=1)=>unit_one e
  rw[hu] at hp c1 hu1
  have w1:((2:Int)==2)=true:=rfl
  have w2:((1:Int)==2)=false:=rfl
  have w3:((1:Int)==1)=true:=rfl
  refine gets_vc spR (fun k=> [[1,2,7,8],[2,7],[2,7,11,12]].getD k []) (fun _=> []) 400 (.fork (.fork .stop (.fork (.hd 2) (.hd 2))) (.fork .stop (.hd 1))) (V:=fun G R=>let yy0:=(unitF (Nt (List.take m.length (List.drop 0 (Mi m)))) (B.getD i.toNat ((Ty.int .i64).prod (Ty.int .i64)).sl.dflt));let yy1:=(Row.box 73 [D.v (Value.int .i64 g.h),D.v (Value.int .i64 g.w),D.own 1 0 g.B.length none,D.own 2 0 g.R.length none,D.own 3 0 g.L.length none,D.own 4 0 W.length none,D.own 5 0 m.length none]);let yy2:=(Ty.int .i64);let yy3:=(Ty.int .u64);(decide (i< (↑B.length:Int))=true→(0:Int)≤i∧i< (↑B.length:Int)∧Con Tryd.prog 126 [] [D.sl false false yy3 (Mi (Nt (List.take m.length (List.drop 0 (Mi m))))),D.sl false false (yy2.prod yy2) (B.getD i.toNat (yy2.prod yy2).sl.dflt)] (D.tup [D.v (Value.int .i64 yy0.fst),D.agg [D.v (Value.int .i64 yy0.snd.fst),D.v (Value.int .i64 yy0.snd.snd)]]) [] []∧List.take m.length (List.drop 0 (Mi m))=Mi (Nt (List.take m.length (List.drop 0 (Mi m))))∧B.getD i.toNat (yy2.prod yy2).sl.dflt=B.getD i.toNat (yy2.prod yy2).sl.dflt∧((yy0.fst==(2:Int))=true→R (D.v (Value.bool true),[],[]))∧((yy0.fst==(2:Int))=false→((yy0.fst==(1:Int))=true→(0:Int)≤yy0.snd.fst∧yy0.snd.fst< (↑m.length:Int)∧0+yy0.snd.fst.toNat< (Mi m).length∧Con Tryd.prog 74 [] [D.v (Value.int .i64 yy0.snd.snd)] (D.v (Value.int .u64 (↑(bitN yy0.snd.snd):Int))) [] []∧Value.int .i64 yy0.snd.snd=Value.int .i64 yy0.snd.snd∧(0:Int)≤yy0.snd.fst∧yy0.snd.fst< (↑m.length:Int)∧0+yy0.snd.fst.toNat< (Mi m).length∧SameK (KK r94 2) (KK r94 2)∧G 2 (stOf 95 [2,7,11,12] [D.sl false false (yy2.prod yy2).sl B,D.ptr 0 0 0,D.v (Value.bool true),D.v (Value.int .i64 (IntKind.i64.wrap (i+(1:Int))))] [Slot.live yy1,Slot.live (Row.data 4 Ty.bool g.B),Slot.live (Row.data 4 Ty.bool g.R),Slot.live (Row.data 4 Ty.bool g.L),Slot.live (Row.data 27 yy2.sl W),Slot.live (Row.data 22 yy3 ((Mi m).set (0+yy0.snd.fst.toNat) (IntKind.u64.wrap ((Mi m).getD (0+yy0.snd.fst.toNat) yy3.dflt-(↑(bitN yy0.snd.snd):Int)))))]))∧((yy0.fst==(1:Int))=false→SameK (KK r94 2) (KK r94 2)∧G 2 (stOf 95 [2,7,11,12] [D.sl false false (yy2.prod yy2).sl B,D.ptr 0 0 0,D.v (Value.bool ch),D.v (Value.int .i64 (IntKind.i64.wrap (i+(1:Int))))] [Slot.live yy1,Slot.live (Row.data 4 Ty.bool g.B),Slot.live (Row.data 4 Ty.bool g.R),Slot.live (Row.data 4 Ty.bool g.L),Slot.live (Row.data 27 yy2.sl W),Slot.live (Row.data 22 yy3 (Mi m))]))))∧(decide (i< (↑B.length:Int))=false→((!ch)=true→R (D.v (Value.bool false),[],[]))∧((!ch)=false→SameK (KK r94 1) (KK r94 1)∧G 1 (stOf 95 [2,7] [D.sl false false (yy2.prod yy2).sl B,D.ptr 0 0 0] [Slot.live yy1,Slot.live (Row.data 4 Ty.bool g.B),Slot.live (Row.data 4 Ty.bool g.R),Slot.live (Row.data 4 Ty.bool g.L),Slot.live (Row.data 27 yy2.sl W),Slot.live (Row.data 22 yy3 (Mi m))])))) hmG (fun G R=>by kernel_rfl) ?_
  try dsimp only
  simp only[Ty.dflt,hll,hk1,take_len,List.drop_zero,List.take_length,Mi_getD,Mi_len,Nt_Mi,Int.toNat_natCast,Mi_set,Nat.zero_add,Nat.sub_zero,List.length_set,take_one,takeSn,List.take_zero,List.nil_append,List.length_append,List.length_cons,List.length_nil,Mi_take,hu]
  by_cases e2:u.1=2
  ·rw[if_pos e2] at hp
   simp only[Prod.mk.injEq] at hp
   have hb:=h2 hp.2.symm
   subst hb
   have w:(u.1==2)=true:=by rw[e2];rfl
   simp only[w]
   simp (disch:=omega) only[oo,oop,ne_eq,Ty.dflt,reduceCtorEq]
   repeat' (first|with_reducible refine And.intro ?_ ?_|intro _)
   all_goals first|rfl|omega|assumption|trivial|(exfalso;simp_all;done)|(exfalso;omega)|skip
  ·rw[if_neg e2] at hp
   have w:(u.1==2)=false:=by rw[beq_eq_false_iff_ne];exact e2
   by_cases e1:u.1=1
   ·rw[if_pos e1] at hp
    obtain⟨v1,v2⟩:=hu1 e1
    have hr:=hx.2 _ v1
    obtain⟨b1,b2,b3,b4⟩:=has_sub v2
    have hg:=ih (i+1) (letgo m u.2) 1 true (by omega) (by omega) (letgo_small hm _) (by rw[letgo_len];exact hl) (Or.inl ⟨rfl,rfl⟩) hp
    unfold letgo at hg
    rw[List.length_set] at hg
    have w4:(u.1==1)=true:=by rw[e1];rfl
    have e3:=sub_wrap b3 (hm.at u.2.1.toNat)
    have c2:=d130 u.2.2
    simp only[w,w4,e3,Mi_set]
    simp (disch:=omega) only[oo,oop,ne_eq,Ty.dflt,reduceCtorEq]
    repeat' (first|with_reducible refine And.intro ?_ ?_|intro _)
    all_goals first|rfl|omega|assumption|trivial|(exfalso;simp_all;done)|(exfalso;omega)|skip
   ·rw[if_neg e1] at hp
    have hg:=ih (i+1) m st ch (by omega) (by omega) hm hl hc hp
    have w4:(u.1==1)=false:=by rw[beq_eq_false_iff_ne];exact e1
    simp only[w,w4]
    simp (disch:=omega) only[oo,oop,ne_eq,Ty.dflt,reduceCtorEq]
    repeat' (first|with_reducible refine And.intro ?_ ?_|intro _)
    all_goals first|rfl|omega|assumption|trivial|(exfalso;simp_all;done)|(exfalso;omega)|skip
def vq47 (g:Gr) (W:List (List Int)) (B:List (List (Int×Int))) (q:List Nat) (G:Nat→St→Prop) (R:D×List (Option Row)×List Row→Prop):Prop:=let yy0:=(Pr.mk g (List.take W.length (List.drop 0 W)) (Nt (List.take q.length (List.drop 0 (Mi q)))));let yy1:=(Ty.int .i64);Con Tryd.prog 125 [] [D.agg [D.v (Value.int .i64 yy0.g.h),D.v (Value.int .i64 yy0.g.w),D.sl false false Ty.bool yy0.g.B,D.sl false false Ty.bool yy0.g.R,D.sl false false Ty.bool yy0.g.L,D.sl false false yy1.sl yy0.W,D.sl false false (Ty.int .u64) (Mi yy0.M)]] (D.tup [D.agg [D.own 0 0 (narM yy0).length none,D.own 1 0 (narW yy0).length none,D.v (Value.bool (narO yy0))],D.v (Value.int .i64 (checkP yy0))]) [] [Row.data 22 (Ty.int .u64) (Mi (narM yy0)),Row.nest (NK.mk 27 yy1.sl 0 3 yy1) (narW yy0) none]∧Value.int .i64 g.h=Value.int .i64 yy0.g.h∧Value.int .i64 g.w=Value.int .i64 yy0.g.w∧List.take g.B.length (List.drop 0 g.B)=yy0.g.B∧List.take g.R.length (List.drop 0 g.R)=yy0.g.R∧List.take g.L.length (List.drop 0 g.L)=yy0.g.L∧List.take W.length (List.drop 0 W)=yy0.W∧List.take q.length (List.drop 0 (Mi q))=Mi yy0.M∧((!narO yy0)=true→R (D.v (Value.bool true),[],[]))∧((!narO yy0)=false→SameK (KK r94 2) (KK r94 2)∧G 2 (stOf 95 [2,7,11,12] [D.sl false false (yy1.prod yy1).sl B,D.ptr 0 0 0,D.v (Value.bool false),D.v (Value.int .i64 (0:Int))] [Slot.live (Row.box 73 [D.v (Value.int .i64 g.h),D.v (Value.int .i64 g.w),D.own 1 0 g.B.length none,D.own 2 0 g.R.length none,D.own 3 0 g.L.length none,D.own 4 0 W.length none,D.own 5 0 (narM yy0).length none]),Slot.live (Row.data 4 Ty.bool g.B),Slot.live (Row.data 4 Ty.bool g.R),Slot.live (Row.data 4 Ty.bool g.L),Slot.live (Row.data 27 yy1.sl W),Slot.live (Row.data 22 (Ty.int .u64) (Mi (narM yy0)))]))
theorem e94b (g:Gr) (W:List (List Int)) (B:List (List (Int×Int))) (n:Nat) (hBl:B.length≤1000000) (hB:∀l∈B,l.length≤8796093022208∧∀x∈l,0≤x.1∧x.1<n) (fu:Nat):∀q:List Nat,q.sum<fu→Smalls q→q.length=n→checkP ⟨g,W,q⟩=0→∀b,b= !(spreadF g W B fu q).2→GetsK Tryd.prog Tryd.f94.results.toList [none] (KK r94) 0 (.v (.bool b),[],[]) 1 (stOf 95 [2,7] [slBd B,.ptr 0 0 0] [.live (.box 73 [.v (.int .i64 g.h),.v (.int .i64 g.w),.own 1 0 g.B.length none,.own 2 0 g.R.length none,.own 3 0 g.L.length none,.own 4 0 W.length none,.own 5 0 q.length none]),.live (.data 4 .bool g.B),.live (.data 4 .bool g.R),.live (.data 4 .bool g.L),.live (.data 27 WT W),.live (.data 22 (.int .u64) (Mi q))]):=by
 induction fu with
 |zero=>intro q h;omega
 |succ fu ih=>
  intro q hs hq hl hc b hb
  have hns:=nar_small hc hq
  have hnl:=narM_len _ hc
  simp only at hnl
  have hsum:(narM ⟨g,W,q⟩).sum≤q.sum:=by
   refine sum_le hnl fun c=>sub_le fun i hi=> ?_
   exact(nar_given hc) c i hi
  have c60:=d60 g W q hq
  simp only[narVal] at c60
  cases ho:narO ⟨g,W,q⟩ with
  |false=>
   rw[ho] at c60
   simp only[spreadF,ho,Bool.false_eq_true,if_false,Bool.not_false] at hb
   subst hb
   refine gets_vc spR (fun k=> [[1,2,7,8],[2,7],[2,7,11,12]].getD k []) (fun _=> []) 400 (.fork .stop (.hd 2)) (V:=vq47 g W B q) hmG (fun G R=>by kernel_rfl) ?_
   unfold vq47
   try dsimp only
   simp only[take_len,List.drop_zero,List.take_length,Mi_getD,Mi_len,Nt_Mi,Int.toNat_natCast,Mi_set,Nat.zero_add,Nat.sub_zero,List.length_set,take_one,takeSn,List.take_zero,List.nil_append,List.length_append,List.length_cons,List.length_nil,Mi_take,ho,Bool.not_false]
   simp (disch:=omega) only[oo,oop,ne_eq,Ty.dflt,reduceCtorEq]
   repeat' (first|with_reducible refine And.intro ?_ ?_|intro _)
   all_goals first|rfl|omega|assumption|trivial|(exfalso;simp_all;done)|(exfalso;omega)|skip
  |true=>
   rw[ho] at c60
   obtain⟨f1,f2,f3,f4⟩:=pass_facts n B (narM ⟨g,W,q⟩) 0 (fun l hl x hx=>(hB l hl).2 x hx) (by omega) hns
   simp only[spreadF,ho,if_true] at hb
   obtain⟨mE,stE,hE⟩:∃mE stE,passF B (narM ⟨g,W,q⟩) 0=(mE,stE):=⟨_,_,rfl⟩
   rw[hE] at hb f1 f2 f3 f4
   simp only at hb f1 f2 f3 f4
   have hcE:checkP ⟨g,W,mE⟩=0:=by rw[again_check (p:=⟨g,W,q⟩) (by simp only;omega)];exact hc
   have hg:=e94c g W B n hBl hB b mE stE (fun e=>by rw[hb,if_pos e];rfl) (fun e=>by rw[hb,if_neg (by omega),if_neg (by omega)];rfl) (fun e=>by
    have h4:=f4 trivial e
    exact ih mE (by omega) f2 f1 hcE b (by rw[hb,if_neg (by omega),if_pos e])) B.length 0 _ 0 false (by omega) (by omega) hns (by omega) (Or.inr ⟨rfl,rfl⟩) hE
   refine gets_vc spR (fun k=> [[1,2,7,8],[2,7],[2,7,11,12]].getD k []) (fun _=> []) 400 (.fork .stop (.hd 2)) (V:=vq47 g W B q) hmG (fun G R=>by kernel_rfl) ?_
   unfold vq47
   try dsimp only
   simp only[take_len,List.drop_zero,List.take_length,Mi_getD,Mi_len,Nt_Mi,Int.toNat_natCast,Mi_set,Nat.zero_add,Nat.sub_zero,List.length_set,take_one,takeSn,List.take_zero,List.nil_append,List.length_append,List.length_cons,List.length_nil,Mi_take,ho,Bool.not_true]
   simp (disch:=omega) only[oo,oop,ne_eq,Ty.dflt,reduceCtorEq]
   repeat' (first|with_reducible refine And.intro ?_ ?_|intro _)
   all_goals first|rfl|omega|assumption|trivial|(exfalso;simp_all;done)|(exfalso;omega)|skip
def vq48 (g:Gr) (W:List (List Int)) (B:List (List (Int×Int))) (F:List (Int×Int)) (i:Int) (Q:List Nat) (G:Nat→St→Prop) (R:D×List (Option Row)×List Row→Prop):Prop:=let yy0:=(F.getD i.toNat ((Ty.int .i64).prod (Ty.int .i64)).dflt);let yy1:=((Mi Q).getD (0+Int.toNat yy0.fst) (Ty.int .u64).dflt);let yy2:=(Row.box 73 [D.v (Value.int .i64 g.h),D.v (Value.int .i64 g.w),D.own 1 0 g.B.length none,D.own 2 0 g.R.length none,D.own 3 0 g.L.length none,D.own 4 0 W.length none,D.own 5 0 Q.length none]);let yy3:=(Ty.int .i64);let yy4:=(↑(bitN yy0.snd):Int);(decide (i< (↑F.length:Int))=true→(0:Int)≤i∧i< (↑F.length:Int)∧(0:Int)≤i∧i< (↑F.length:Int)∧(0:Int)≤yy0.fst∧yy0.fst< (↑Q.length:Int)∧0+Int.toNat yy0.fst< (Mi Q).length∧(0:Int)≤i∧i< (↑F.length:Int)∧Con Tryd.prog 74 [] [D.v (Value.int .i64 yy0.snd)] (D.v (Value.int .u64 yy4)) [] []∧Value.int .i64 yy0.snd=Value.int .i64 yy0.snd∧Con Tryd.prog 124 [] [D.v (Value.int .u64 yy1),D.v (Value.int .u64 yy4)] (D.v (Value.int .u64 (↑(Int.toNat yy1&&&yy4.toNat):Int))) [] []∧Value.int .u64 yy1=Value.int .u64 yy1∧Value.int .u64 yy4=Value.int .u64 yy4∧(0:Int)≤yy0.fst∧yy0.fst< (↑Q.length:Int)∧0+Int.toNat yy0.fst< (Mi Q).length∧SameK (KK r94 0) (KK r94 0)∧G 0 (stOf 95 [1,2,7,8] [D.sl false false (yy3.prod yy3) F,D.sl false false (yy3.prod yy3).sl B,D.ptr 0 0 0,D.v (Value.int .i64 (IntKind.i64.wrap (i+(1:Int))))] [Slot.live yy2,Slot.live (Row.data 4 Ty.bool g.B),Slot.live (Row.data 4 Ty.bool g.R),Slot.live (Row.data 4 Ty.bool g.L),Slot.live (Row.data 27 yy3.sl W),Slot.live (Row.data 22 (Ty.int .u64) ((Mi Q).set (0+Int.toNat yy0.fst) (↑(Int.toNat yy1&&&yy4.toNat):Int)))]))∧(decide (i< (↑F.length:Int))=false→SameK (KK r94 1) (KK r94 1)∧G 1 (stOf 95 [2,7] [D.sl false false (yy3.prod yy3).sl B,D.ptr 0 0 0] [Slot.live yy2,Slot.live (Row.data 4 Ty.bool g.B),Slot.live (Row.data 4 Ty.bool g.R),Slot.live (Row.data 4 Ty.bool g.L),Slot.live (Row.data 27 yy3.sl W),Slot.live (Row.data 22 (Ty.int .u64) (Mi Q))]))
theorem e94a (g:Gr) (W:List (List Int)) (B:List (List (Int×Int))) (F:List (Int×Int)) (QE:List Nat) (b:Bool) (hFl:F.length≤8796093022208) (hF:∀x∈F,0≤x.1∧x.1<QE.length) (hx:GetsK Tryd.prog Tryd.f94.results.toList [none] (KK r94) 0 (.v (.bool b),[],[]) 1 (stOf 95 [2,7] [slBd B,.ptr 0 0 0] [.live (.box 73 [.v (.int .i64 g.h),.v (.int .i64 g.w),.own 1 0 g.B.length none,.own 2 0 g.R.length none,.own 3 0 g.L.length none,.own 4 0 W.length none,.own 5 0 QE.length none]),.live (.data 4 .bool g.B),.live (.data 4 .bool g.R),.live (.data 4 .bool g.L),.live (.data 27 WT W),.live (.data 22 (.int .u64) (Mi QE))])) (z:Nat):∀(i:Int) (Q:List Nat),0≤i→i+z=F.length→Smalls Q→Q.length=QE.length→givenF (F.drop i.toNat) Q=QE→GetsK Tryd.prog Tryd.f94.results.toList [none] (KK r94) 0 (.v (.bool b),[],[]) 0 (stOf 95 [1,2,7,8] [slQ F,slBd B,.ptr 0 0 0,.v (.int .i64 i)] [.live (.box 73 [.v (.int .i64 g.h),.v (.int .i64 g.w),.own 1 0 g.B.length none,.own 2 0 g.R.length none,.own 3 0 g.L.length none,.own 4 0 W.length none,.own 5 0 Q.length none]),.live (.data 4 .bool g.B),.live (.data 4 .bool g.R),.live (.data 4 .bool g.L),.live (.data 27 WT W),.live (.data 22 (.int .u64) (Mi Q))]):=by
 induction z with
 |zero=>
  intro i Q i0 hi hQ hl he
  rw[List.drop_eq_nil_of_le (by omega)] at he
  have he:Q=QE:=he
  subst he
  refine gets_vc spR (fun k=> [[1,2,7,8],[2,7],[2,7,11,12]].getD k []) (fun _=> []) 400 (.fork (.hd 0) (.hd 1)) (V:=vq48 g W B F i Q) hmG (fun G R=>by kernel_rfl) ?_
  unfold vq48
  try dsimp only
  simp (disch:=omega) only[oo,oop,ne_eq,Ty.dflt,reduceCtorEq]
  repeat' (first|with_reducible refine And.intro ?_ ?_|intro _)
  all_goals first|rfl|omega|assumption|trivial|(exfalso;simp_all;done)|(exfalso;omega)|skip
 |succ z ih=>
  intro i Q i0 hi hQ hl he
  have hk1:IntKind.i64.wrap (i+1)=i+1:=wrG (by omega) (by omega)
  have hy:=hF _ (getD_in (d:=(0,0)) (k:=i.toNat) (l:=F) (by omega))
  rw[drop_at (xs:=F) (i:=i) (0,0) i0 (by omega)] at he
  obtain⟨x,hxx⟩:∃x,F.getD i.toNat (0,0)=x:=⟨_,rfl⟩
  rw[hxx] at hy he
  simp only[givenF] at he
  have hs:Smalls (Q.set x.1.toNat (Q.getD x.1.toNat 0&&&ofN [x.2])):=by
   have:=given_small [x] hQ
   exact this
  have h1:=ih (i+1) _ (by omega) (by omega) hs (by rw[List.length_set];exact hl) he
  rw[List.length_set,ofN_one] at h1
  have c1:=d130 x.2
  have c2:=d127 (Q.getD x.1.toNat 0) (bitN x.2) (hQ.at _) (bitN_lt _)
  refine gets_vc spR (fun k=> [[1,2,7,8],[2,7],[2,7,11,12]].getD k []) (fun _=> []) 400 (.fork (.hd 0) (.hd 1)) (V:=vq48 g W B F i Q) hmG (fun G R=>by kernel_rfl) ?_
  unfold vq48
  try dsimp only
  simp only[Ty.dflt,hk1,hxx,take_len,List.drop_zero,List.take_length,Mi_getD,Mi_len,Nt_Mi,Int.toNat_natCast,Mi_set,Nat.zero_add,Nat.sub_zero,List.length_set,take_one,takeSn,List.take_zero,List.nil_append,List.length_append,List.length_cons,List.length_nil,Mi_take]
  simp (disch:=omega) only[oo,oop,ne_eq,Ty.dflt,reduceCtorEq]
  repeat' (first|with_reducible refine And.intro ?_ ?_|intro _)
  all_goals first|rfl|omega|assumption|trivial|(exfalso;simp_all;done)|(exfalso;omega)|skip
theorem d94 (g:Gr) (W:List (List Int)) (M:List Nat) (F:List (Int×Int)) (B:List (List (Int×Int))) (hc:checkP ⟨g,W,M⟩=0) (hM:Smalls M) (hFl:F.length≤8796093022208) (hF:∀x∈F,0≤x.1∧x.1<M.length) (hBl:B.length≤1000000) (hB:∀l∈B,l.length≤8796093022208∧∀x∈l,0≤x.1∧x.1<M.length):Con Tryd.prog 94 [] [.agg [.v (.int .i64 g.h),.v (.int .i64 g.w),.sl false false .bool g.B,.sl false false .bool g.R,.sl false false .bool g.L,slW W,slU M],slQ F,slBd B] (.v (.bool (!(spreadG ⟨g,W,M⟩ F B).2))) [] []:=by
 refine con_vc (how:=[none]) (c:=r94) (K:=(KK r94)) spR (fun k=> [[1,2,7,8],[2,7],[2,7,11,12]].getD k []) (fun _=> []) 400 (.hd 0) (V:=fun G R=>let yy0:=(Pr.mk g W (Nt (Mi M)));let yy1:=(Ty.int .i64);Con Tryd.prog 53 [] [D.agg [D.v (Value.int .i64 yy0.g.h),D.v (Value.int .i64 yy0.g.w),D.sl false false Ty.bool yy0.g.B,D.sl false false Ty.bool yy0.g.R,D.sl false false Ty.bool yy0.g.L,D.sl false false yy1.sl yy0.W,D.sl false false (Ty.int .u64) (Mi yy0.M)]] (D.agg [D.v (Value.int .i64 yy0.g.h),D.v (Value.int .i64 yy0.g.w),D.own 0 0 yy0.g.B.length none,D.own 1 0 yy0.g.R.length none,D.own 2 0 yy0.g.L.length none,D.own 3 0 yy0.W.length none,D.own 4 0 yy0.M.length none]) [] [Row.data 4 Ty.bool yy0.g.B,Row.data 4 Ty.bool yy0.g.R,Row.data 4 Ty.bool yy0.g.L,Row.data 27 yy1.sl yy0.W,Row.data 22 (Ty.int .u64) (Mi yy0.M)]∧Value.int .i64 g.h=Value.int .i64 yy0.g.h∧Value.int .i64 g.w=Value.int .i64 yy0.g.w∧g.B=yy0.g.B∧g.R=yy0.g.R∧g.L=yy0.g.L∧W=yy0.W∧Mi M=Mi yy0.M∧SameK (KK r94 0) (KK r94 0)∧G 0 (stOf 95 [1,2,7,8] [D.sl false false (yy1.prod yy1) F,D.sl false false (yy1.prod yy1).sl B,D.ptr 0 0 0,D.v (Value.int .i64 (0:Int))] [Slot.live (Row.box 73 [D.v (Value.int .i64 yy0.g.h),D.v (Value.int .i64 yy0.g.w),D.own 1 0 yy0.g.B.length none,D.own 2 0 yy0.g.R.length none,D.own 3 0 yy0.g.L.length none,D.own 4 0 yy0.W.length none,D.own 5 0 yy0.M.length none]),Slot.live (Row.data 4 Ty.bool yy0.g.B),Slot.live (Row.data 4 Ty.bool yy0.g.R),Slot.live (Row.data 4 Ty.bool yy0.g.L),Slot.live (Row.data 27 yy1.sl yy0.W),Slot.live (Row.data 22 (Ty.int .u64) (Mi yy0.M))])) hmG Tryd.func94 (by kernel_rfl) (by kernel_rfl) (fun G R=>by kernel_rfl) ?_
 try dsimp only
 try dsimp only
 obtain⟨hf,hMl,hM0⟩:=right_fits hc hM
 have hW1:=hf.W
 have hw1:=hf.w
 have hM1:=hf.M
 simp only at hW1 hw1 hM1
 have c58:=d58 g W M hf.g hW1 hw1 hM1
 have hgs:=given_small F hM
 have hgl:=given_len F M
 have hcq:checkP ⟨g,W,givenF F M⟩=0:=by rw[again_check (p:=⟨g,W,M⟩) hgl];exact hc
 obtain⟨b,hb⟩:∃b,(!(spreadG ⟨g,W,M⟩ F B).2)=b:=⟨_,rfl⟩
 rw[hb]
 have hg:=e94b g W B M.length hBl hB ((givenF F M).sum+1) (givenF F M) (by omega) hgs hgl hcq b hb.symm
 have hx:=e94a g W B F (givenF F M) b hFl (by rw[hgl];exact hF) hg F.length 0 M (by omega) (by omega) hM hgl.symm rfl
 simp only[Nt_Mi]
 simp (disch:=omega) only[oo,oop,ne_eq,Ty.dflt,reduceCtorEq]
 repeat' (first|with_reducible refine And.intro ?_ ?_|intro _)
 all_goals first|rfl|omega|assumption|trivial|(exfalso;simp_all;done)|(exfalso;omega)|skip
end Go.Proofs.YtnakmganodkliaaDoorAm
set_option maxRecDepth 100000
namespace Go.Proofs.YtnakmganodkliaaDoorAm
open Go
def spN:Sp:=fun f args rd=>match f,args with
 |160,[.v (.int _ 12)]=>some {f:=160,args:=[.v (.int .i64 12)],val:= .v (.string ⟨#[49,50]⟩)}
 |153,[.v (.int _ 12),.v (.int _ 10)]=>some {f:=153,args:=[.v (.int .i64 12),.v (.int .i64 10)],val:= .v (.string ⟨#[49,50]⟩)}
 |141,[.v (.int _ 12)]=>some {f:=141,args:=[.v (.int .i64 12)],val:= .v (.string ⟨#[49,50]⟩)}
 |112,[.v (.int _ 12)]=>some {f:=112,args:=[.v (.int .i64 12)],val:= .v (.string ⟨#[49,50]⟩)}
 |76,[.v (.int _ 12),.v (.bool true)]=>some {f:=76,args:=[.v (.int .i64 12),.v (.bool true)],val:= .v (.string ⟨#[49,50,68]⟩)}
 |36,[.agg [.v (.int _ h),.v (.int _ w),b,r,l]]=>withW rd h w b r l fun g ls=>some {f:=36,args:=[g.d],val:= .own 0 0 (slotsF g).length none,allocs:=[.data 50 SlT (slotsF g)],frz:=ls}
 |35,[]=>some {f:=35,args:=[],val:= .v (.bool true)}
 |f,args=>spSe f args rd
end Go.Proofs.YtnakmganodkliaaDoorAm
set_option maxRecDepth 100000
namespace Go.Proofs.YtnakmganodkliaaDoorAm
open Go
theorem slots_small (g:Gr):(slotsF g).length≤512:=by
 unfold slotsF
 split
 ·rename_i hc
  have hw:=hw_in (chk0.1 hc).1 (chk0.1 hc).2.1
  have:=sl_len g (g.h*g.w).toNat 0 0
  omega
 ·simp
end Go.Proofs.YtnakmganodkliaaDoorAm
set_option maxRecDepth 100000
namespace Go.Proofs.YtnakmganodkliaaDoorAm
open Go
def findC (c:Int):Int→List Int→Option Int
 |_,[]=>none
 |k,x::xs=>if x=c then some k else findC c (k+1) xs
def seatOf (d:Bool) (c:Int):Int→List (Int×Bool×List Int)→Int×Int
 |_,[]=>(-1,0)
 |s,x::ss=>match(if x.2.1=d then findC c 0 x.2.2 else none) with
  |some k=>(s,k)
  |none=>seatOf d c (s+1) ss
def spH:Sp:=fun f args rd=>match f,args with
 |82,[l,.v (.int _ i),.v (.bool d)]=>match slC rd SlT [l] with
  |some S=>some {f:=82,args:=[.sl false false SlT S,.v (.int .i64 i),.v (.bool d)],val:= .agg [.v (.int .i64 (seatOf d i 0 S).1),.v (.int .i64 (seatOf d i 0 S).2)],lent:=refsDs [l]}
  |none=>none
 |41,[.agg [.v (.int _ h),.v (.int _ w),b,r,l]]=>withW rd h w b r l fun g ls=>some {f:=41,args:=[g.d],val:= .tup [.own 0 0 (seatsF g).1.length none,.own 1 0 (seatsF g).2.length none],allocs:=[.data 61 SeT (seatsF g).1,.data 61 SeT (seatsF g).2],lent:=ls}
 |f,args=>spN f args rd
noncomputable def q82:Code:=(Tryd.f82.body).getD .skip
noncomputable def q41:Code:=(Tryd.f41.body).getD .skip
theorem find_none {c:Int}:∀{xs:List Int} {k:Int},findC c k xs=none→∀x∈xs,x≠c
 | [],_,_,x,hx=>by simp at hx
 |y::xs,k,h,x,hx=>by
  simp only[findC] at h
  split at h
  ·cases h
  ·rename_i hy
   rcases List.mem_cons.1 hx with rfl|hx
   ·exact hy
   ·exact find_none h x hx
theorem find_some {c:Int}:∀{xs:List Int} {k r:Int},findC c k xs=some r→∃j:Nat,r=k+j∧j<xs.length∧xs.getD j 0=c
 | [],_,_,h=>by simp[findC] at h
 |y::xs,k,r,h=>by
  simp only[findC] at h
  split at h
  ·rename_i hy
   simp only[Option.some.injEq] at h
   exact⟨0,by simp[h],by simp,hy⟩
  ·obtain⟨j,a,b,e⟩:=find_some h
   exact⟨j+1,by rw[a];show k+1+(j:Int)=k+((j+1:Nat):Int);omega,by simp only[List.length_cons];omega,e⟩
theorem seatOf_is {d:Bool} {c:Int}:∀(ss P:List (Int×Bool×List Int)),(∀s k s' k',Sits (P++ss) d c s k→Sits (P++ss) d c s' k'→s=s'∧k=k')→(∀s k,¬Sits P d c s k)→IsSeat (P++ss) d c (seatOf d c P.length ss)
 | [],P,_,hn=>by
  rw[List.append_nil]
  exact⟨fun s k h=>absurd h (hn s k),fun _=>rfl⟩
 |x::ss,P,hu,hn=>by
  have el:((P++[x]).length:Int)=P.length+1:=by simp
  simp only[seatOf]
  rw[List.append_cons] at hu⊢
  split
  ·rename_i k hk
   split at hk
   ·rename_i hd
    obtain⟨j,a,b,e⟩:=find_some hk
    have hs:Sits (P++[x]++ss) d c P.length j:=sits_more (sits_snoc.2 (.inr ⟨rfl,hd,b,e⟩))
    refine⟨fun s' k' h'=> ?_,fun h=>absurd hs (h _ _)⟩
    obtain⟨p,q⟩:=hu _ _ _ _ hs h'
    rw[←p,←q,a]
    simp
   ·cases hk
  ·rename_i hk
   rw[←el]
   refine seatOf_is ss (P++[x]) hu (fun s k h=> ?_)
   rcases sits_snoc.1 h with h|⟨_,hd,hl,e⟩
   ·exact hn s k h
   ·rw[if_pos hd] at hk
    refine find_none hk (x.2.2.getD k 0) ?_ e
    rw[List.getD_eq_getElem?_getD,List.getElem?_eq_getElem hl]
    exact List.getElem_mem hl
theorem seatOf_seats {g:Gr} (hc:checkF g=0) {c:Int} (c0:0≤c):seatOf false c 0 (slotsF g)=sAt (seatsF g).1 c∧seatOf true c 0 (slotsF g)=sAt (seatsF g).2 c:=by
 have h:=seats_are hc c0
 have k:∀d,IsSeat (slotsF g) d c (seatOf d c 0 (slotsF g)):=fun d=>seatOf_is (slotsF g) [] (fun _ _ _ _ a b=>sits_unique hc a b) (fun s k h=>by obtain⟨x,hx,_⟩:=h;simp at hx)
 exact⟨isSeat_unique (k false) h.1,isSeat_unique (k true) h.2.1⟩
end Go.Proofs.YtnakmganodkliaaDoorAm
set_option maxRecDepth 100000
namespace Go.Proofs.YtnakmganodkliaaDoorAm
open Go
def vq49 (S:List (Int×Bool×List Int)) (c:Int) (s:Int) (d:Bool) (k:Int) (G:Nat→St→Prop) (R:D×List (Option Row)×List Row→Prop):Prop:=let yy0:=((Ty.int .i64).prod (Ty.bool.prod (Ty.int .i64).sl));let yy1:=(stOf 48 [0,1,2,6,7,8] [D.sl false false yy0 S,D.v (Value.int .i64 c),D.v (Value.bool d),D.ptr 0 0 0,D.v (Value.int .i64 s),D.v (Value.int .i64 (IntKind.i64.wrap (k+(1:Int))))] [Slot.live (Row.box 61 [D.v (Value.int .i64 (0:Int)),D.v (Value.int .i64 (0:Int))])]);let yy2:=(S.getD s.toNat yy0.dflt);(0:Int)≤s∧s< (↑S.length:Int)∧(decide (k< (↑(List.length yy2.snd.snd):Int))=true→(0:Int)≤s∧s< (↑S.length:Int)∧((yy2.snd.fst==d)=true→(0:Int)≤s∧s< (↑S.length:Int)∧(0:Int)≤k∧k< (↑(List.length yy2.snd.snd):Int)∧((List.getD yy2.snd.snd k.toNat (Ty.int .i64).dflt==c)=true→R (D.agg [D.v (Value.int .i64 s),D.v (Value.int .i64 k)],[],[]))∧((List.getD yy2.snd.snd k.toNat (Ty.int .i64).dflt==c)=false→SameK (KK q82 1) (KK q82 1)∧G 1 yy1))∧((yy2.snd.fst==d)=false→false=false∧SameK (KK q82 1) (KK q82 1)∧G 1 yy1))∧(decide (k< (↑(List.length yy2.snd.snd):Int))=false→SameK (KK q82 0) (KK q82 0)∧G 0 (stOf 48 [0,1,2,6,7] [D.sl false false yy0 S,D.v (Value.int .i64 c),D.v (Value.bool d),D.ptr 0 0 0,D.v (Value.int .i64 (IntKind.i64.wrap (s+(1:Int))))] [Slot.live (Row.box 61 [D.v (Value.int .i64 (0:Int)),D.v (Value.int .i64 (0:Int))])]))
theorem e82_1 (S:List (Int×Bool×List Int)) (c s:Int) (d:Bool) (x:Int×Bool×List Int) (r:D×List (Option Row)×List Row) (s0:0≤s) (sl:s<S.length) (hS:S.length≤600) (hx:S.getD s.toNat (Ty.dflt (.prod (.int .i64) (.prod .bool (.sl (.int .i64)))))=x) (hl:x.2.2.length≤300) (m:Nat):∀(k:Int),0≤k→k+m=x.2.2.length→
  (match(if x.2.1=d then findC c k (x.2.2.drop k.toNat) else none) with|some k'=>r=(.agg [.v (.int .i64 (s,k').1),.v (.int .i64 (s,k').2)],[],[])|none=>GetsK Tryd.prog Tryd.f82.results.toList [none] (KK q82) 0 r 0 (stOf 48 [0,1,2,6,7] [.sl false false SlT S,.v (.int .i64 c),.v (.bool d),.ptr 0 0 0,.v (.int .i64 (s+1))] [.live (.box 61 [.v (.int .i64 0),.v (.int .i64 0)])]))→GetsK Tryd.prog Tryd.f82.results.toList [none] (KK q82) 0 r 1 (stOf 48 [0,1,2,6,7,8] [.sl false false SlT S,.v (.int .i64 c),.v (.bool d),.ptr 0 0 0,.v (.int .i64 s),.v (.int .i64 k)] [.live (.box 61 [.v (.int .i64 0),.v (.int .i64 0)])]):=by
 induction m with
 |zero=>
  intro k k0 km h
  rw[List.drop_eq_nil_of_le (by omega)] at h
  simp only[findC,ite_self] at h
  refine gets_vc spH (fun k=> [[0,1,2,6,7],[0,1,2,6,7,8]].getD k []) (fun _=> []) 400 (.fork (.fork (.fork .stop (.hd 1)) (.f (.hd 1))) (.hd 0)) (V:=vq49 S c s d k) hmG (fun G R=>by kernel_rfl) ?_
  unfold vq49
  try dsimp only
  rw[hx]
  simp (disch:=omega) only[oo,oop,ne_eq,Ty.dflt,reduceCtorEq]
  repeat' (first|with_reducible refine And.intro ?_ ?_|intro _)
  all_goals first|rfl|omega|assumption|trivial|(exfalso;simp_all;done)|skip
 |succ m ih=>
  intro k k0 km h
  have hd:=drop_at (xs:=x.2.2) (i:=k) (0:Int) k0 (by omega)
  have hi:=ih (k+1) (by omega) (by omega)
  rw[hd] at h
  simp only[findC] at h
  refine gets_vc spH (fun k=> [[0,1,2,6,7],[0,1,2,6,7,8]].getD k []) (fun _=> []) 400 (.fork (.fork (.fork .stop (.hd 1)) (.f (.hd 1))) (.hd 0)) (V:=vq49 S c s d k) hmG (fun G R=>by kernel_rfl) ?_
  unfold vq49
  try dsimp only
  rw[hx]
  simp only[Ty.dflt]
  by_cases h1:x.2.1=d
  ·simp only[h1,if_true] at h hi
   by_cases h2:x.2.2.getD k.toNat 0=c
   ·simp only[h2,if_true] at h
    subst h
    simp (disch:=omega) only[oo,oop,ne_eq,Ty.dflt,reduceCtorEq]
    repeat' (first|with_reducible refine And.intro ?_ ?_|intro _)
    all_goals first|rfl|omega|assumption|trivial|(exfalso;simp_all;done)|skip
   ·simp only[h2,if_false] at h
    have hj:=hi h
    simp (disch:=omega) only[oo,oop,ne_eq,Ty.dflt,reduceCtorEq]
    repeat' (first|with_reducible refine And.intro ?_ ?_|intro _)
    all_goals first|rfl|omega|assumption|trivial|(exfalso;simp_all;done)|skip
  ·simp only[h1,if_false] at h hi
   have hj:=hi h
   simp (disch:=omega) only[oo,oop,ne_eq,Ty.dflt,reduceCtorEq]
   repeat' (first|with_reducible refine And.intro ?_ ?_|intro _)
   all_goals first|rfl|omega|assumption|trivial|(exfalso;simp_all;done)|skip
def vq50 (S:List (Int×Bool×List Int)) (c:Int) (d:Bool) (s:Int) (G:Nat→St→Prop) (R:D×List (Option Row)×List Row→Prop):Prop:=let yy0:=(Value.int .i64 (0:Int));(decide (s< (↑S.length:Int))=true→SameK (KK q82 1) (KK q82 1)∧G 1 (stOf 48 [0,1,2,6,7,8] [D.sl false false ((Ty.int .i64).prod (Ty.bool.prod (Ty.int .i64).sl)) S,D.v (Value.int .i64 c),D.v (Value.bool d),D.ptr 0 0 0,D.v (Value.int .i64 s),D.v yy0] [Slot.live (Row.box 61 [D.v yy0,D.v yy0])]))∧(decide (s< (↑S.length:Int))=false→R (D.agg [D.v (Value.int .i64 (-1:Int)),D.v yy0],[],[]))
theorem e82_0 (S:List (Int×Bool×List Int)) (c:Int) (d:Bool) (hS:S.length≤600) (hl:∀x∈S,x.2.2.length≤300) (r:D×List (Option Row)×List Row) (m:Nat):∀(s:Int),0≤s→s+m=S.length→r=(.agg [.v (.int .i64 (seatOf d c s (S.drop s.toNat)).1),.v (.int .i64 (seatOf d c s (S.drop s.toNat)).2)],[],[])→GetsK Tryd.prog Tryd.f82.results.toList [none] (KK q82) 0 r 0 (stOf 48 [0,1,2,6,7] [.sl false false SlT S,.v (.int .i64 c),.v (.bool d),.ptr 0 0 0,.v (.int .i64 s)] [.live (.box 61 [.v (.int .i64 0),.v (.int .i64 0)])]):=by
 induction m with
 |zero=>
  intro s s0 sm h
  rw[List.drop_eq_nil_of_le (by omega)] at h
  simp only[seatOf] at h
  subst h
  refine gets_vc spH (fun k=> [[0,1,2,6,7],[0,1,2,6,7,8]].getD k []) (fun _=> []) 400 (.fork (.hd 1) .stop) (V:=vq50 S c d s) hmG (fun G R=>by kernel_rfl) ?_
  unfold vq50
  try dsimp only
  simp (disch:=omega) only[oo,oop,ne_eq,Ty.dflt,reduceCtorEq]
  repeat' (first|with_reducible refine And.intro ?_ ?_|intro _)
  all_goals first|rfl|omega|assumption|trivial|(exfalso;simp_all;done)|skip
 |succ m ih=>
  intro s s0 sm h
  have hd:=drop_at (xs:=S) (i:=s) (Ty.dflt (.prod (.int .i64) (.prod .bool (.sl (.int .i64))))) s0 (by omega)
  have hm:S.getD s.toNat (Ty.dflt (.prod (.int .i64) (.prod .bool (.sl (.int .i64)))))∈S:=List.mem_of_mem_drop (i:=s.toNat) (by rw[hd];exact List.mem_cons_self)
  rw[hd] at h
  have hi:=ih (s+1) (by omega) (by omega)
  simp only[seatOf] at h
  have e1:=e82_1 S c s d _ r s0 (by omega) hS rfl (hl _ hm) _ 0 (by omega) (Int.zero_add _) (by
   simp only[show(0:Int).toNat=0 by rfl,List.drop_zero]
   split
   ·rename_i k' hk
    rw[hk] at h
    exact h
   ·rename_i hk
    rw[hk] at h
    exact hi h)
  refine gets_vc spH (fun k=> [[0,1,2,6,7],[0,1,2,6,7,8]].getD k []) (fun _=> []) 400 (.fork (.hd 1) .stop) (V:=vq50 S c d s) hmG (fun G R=>by kernel_rfl) ?_
  unfold vq50
  try dsimp only
  simp (disch:=omega) only[oo,oop,ne_eq,Ty.dflt,reduceCtorEq]
  repeat' (first|with_reducible refine And.intro ?_ ?_|intro _)
  all_goals first|rfl|omega|assumption|trivial|(exfalso;simp_all;done)|skip
theorem d82D (S:List (Int×Bool×List Int)) (c:Int) (d:Bool) (hS:S.length≤600) (hl:∀x∈S,x.2.2.length≤300):Con Tryd.prog 82 [] [.sl false false SlT S,.v (.int .i64 c),.v (.bool d)] ((.agg [.v (.int .i64 (seatOf d c 0 S).1),.v (.int .i64 (seatOf d c 0 S).2)])) [] []:=by
 refine con_vc (how:=[none]) (c:=q82) (K:=(KK q82)) spH (fun k=> [[0,1,2,6,7],[0,1,2,6,7,8]].getD k []) (fun _=> []) 400 (.hd 0) (V:=fun G R=>SameK (KK q82 0) (KK q82 0)∧G 0 (stOf 48 [0,1,2,6,7] [D.sl false false ((Ty.int .i64).prod (Ty.bool.prod (Ty.int .i64).sl)) S,D.v (Value.int .i64 c),D.v (Value.bool d),D.ptr 0 0 0,D.v (Value.int .i64 (0:Int))] [Slot.live (Row.box 61 [D.v (Value.int .i64 (0:Int)),D.v (Value.int .i64 (0:Int))])])) hmG Tryd.func82 (by kernel_rfl) (by kernel_rfl) (fun G R=>by kernel_rfl) ?_
 try dsimp only
 have h:=e82_0 S c d hS hl _ S.length 0 (by omega) (by omega) rfl
 simp only[show(0:Int).toNat=0 by rfl,List.drop_zero] at h
 simp (disch:=omega) only[oo,oop,ne_eq,Ty.dflt,reduceCtorEq]
 repeat' (first|with_reducible refine And.intro ?_ ?_|intro _)
 all_goals first|rfl|omega|assumption|trivial|(exfalso;simp_all;done)|skip
theorem take_next {A:List (Int×Int)} {i:Int} (i0:0≤i) (il:i<A.length):A.take (i+1).toNat=A.take i.toNat++[sAt A i]:=by
 rw[show(i+1).toNat=i.toNat+1 by omega,List.take_add_one]
 unfold sAt
 rw[List.getD_eq_getElem?_getD,List.getElem?_eq_getElem (by omega)]
 rfl
def vq51 (g:Gr) (S:List (Int×Bool×List Int)) (i:Int) (A:List (Int×Int)) (E:List (Int×Int)) (G:Nat→St→Prop) (R:D×List (Option Row)×List Row→Prop):Prop:=let yy0:=(List.take S.length (List.drop 0 S));let yy1:=(Ty.int .i64);let yy2:=(seatOf false i (0:Int) yy0);let yy3:=(seatOf true i (0:Int) yy0);(decide (i<IntKind.i64.wrap (g.h*g.w))=true→Con Tryd.prog 82 [] [D.sl false false (yy1.prod (Ty.bool.prod yy1.sl)) yy0,D.v (Value.int .i64 i),D.v (Value.bool false)] (D.agg [D.v (Value.int .i64 yy2.fst),D.v (Value.int .i64 yy2.snd)]) [] []∧List.take S.length (List.drop 0 S)=List.take S.length (List.drop 0 S)∧Value.int .i64 i=Value.int .i64 i∧Value.bool false=Value.bool false∧roomy Tryd.prog 61 (A.length+1)∧Con Tryd.prog 82 [] [D.sl false false (yy1.prod (Ty.bool.prod yy1.sl)) yy0,D.v (Value.int .i64 i),D.v (Value.bool true)] (D.agg [D.v (Value.int .i64 yy3.fst),D.v (Value.int .i64 yy3.snd)]) [] []∧List.take S.length (List.drop 0 S)=List.take S.length (List.drop 0 S)∧Value.int .i64 i=Value.int .i64 i∧Value.bool true=Value.bool true∧roomy Tryd.prog 61 (E.length+1)∧SameK (KK q41 0) (KK q41 0)∧G 0 (stOf 36 [1,4,5,6,7] [D.ptr 0 0 0,D.own 1 0 (A.length+1) none,D.own 2 0 (E.length+1) none,D.own 3 0 S.length none,D.v (Value.int .i64 (IntKind.i64.wrap (i+(1:Int))))] [Slot.live (Row.box 46 [D.v (Value.int .i64 g.h),D.v (Value.int .i64 g.w),D.sl false false Ty.bool g.B,D.sl false false Ty.bool g.R,D.sl false false Ty.bool g.L]),Slot.live (Row.data 61 (yy1.prod yy1) (List.take A.length (List.drop 0 A)++List.take 1 (List.drop 0 [(yy2.fst,yy2.snd)]))),Slot.live (Row.data 61 (yy1.prod yy1) (List.take E.length (List.drop 0 E)++List.take 1 (List.drop 0 [(yy3.fst,yy3.snd)]))),Slot.live (Row.data 50 (yy1.prod (Ty.bool.prod yy1.sl)) S)]))∧(decide (i<IntKind.i64.wrap (g.h*g.w))=false→R (D.tup [D.own 0 0 A.length none,D.own 1 0 E.length none],[],[Row.data 61 (yy1.prod yy1) A,Row.data 61 (yy1.prod yy1) E]))
theorem e41D (g:Gr) (hc:checkF g=0) (S:List (Int×Bool×List Int)) (hS:S=slotsF g) (hl:∀x∈S,x.2.2.length≤300) (m:Nat):∀(i:Int),0≤i→i+m=g.h*g.w→∀(A E:List (Int×Int)),A=(seatsF g).1.take i.toNat→E=(seatsF g).2.take i.toNat→GetsK Tryd.prog Tryd.f41.results.toList [none,none] (KK q41) 0 (.tup [.own 0 0 (seatsF g).1.length none,.own 1 0 (seatsF g).2.length none],[],[.data 61 SeT (seatsF g).1,.data 61 SeT (seatsF g).2]) 0 (stOf 36 [1,4,5,6,7] [.ptr 0 0 0,.own 1 0 A.length none,.own 2 0 E.length none,.own 3 0 S.length none,.v (.int .i64 i)] [.live (.box 46 [.v (.int .i64 g.h),.v (.int .i64 g.w),.sl false false .bool g.B,.sl false false .bool g.R,.sl false false .bool g.L]),.live (.data 61 SeT A),.live (.data 61 SeT E),.live (.data 50 SlT S)]):=by
 have hw:=hw_in (chk0.1 hc).1 (chk0.1 hc).2.1
 have ew:=hw_wrap (chk0.1 hc).1 (chk0.1 hc).2.1
 have sa:=seats_are hc (c:=0) (by omega)
 have hsm:S.length≤512:=by rw[hS];exact slots_small g
 induction m with
 |zero=>
  intro i i0 im A E hA hE
  rw[List.take_of_length_le (by omega)] at hA hE
  refine gets_vc spH (fun _=> [1,4,5,6,7]) (fun k=>if k=0 then [⟨4,61,SeT⟩,⟨5,61,SeT⟩] else [⟨2,61,SeT⟩,⟨3,61,SeT⟩]) 400 (.fork (.hd 0) .stop) (V:=vq51 g S i A E) hmG (fun G R=>by kernel_rfl) ?_
  unfold vq51
  try dsimp only
  subst hA hE
  rw[ew]
  simp (disch:=omega) only[oo,oop,ne_eq,Ty.dflt,reduceCtorEq]
  repeat' (first|with_reducible refine And.intro ?_ ?_|intro _)
  all_goals first|rfl|omega|assumption|trivial|(exfalso;simp_all;done)|skip
 |succ m ih=>
  intro i i0 im A E hA hE
  have so:=seatOf_seats hc i0
  rw[←hS] at so
  have cA:=d82D S i false (by omega) hl
  have cE:=d82D S i true (by omega) hl
  rw[so.1] at cA
  rw[so.2] at cE
  have hx:=ih (i+1) (by omega) (by omega) (A++[sAt (seatsF g).1 i]) (E++[sAt (seatsF g).2 i]) (by rw[hA,take_next i0 (by omega)]) (by rw[hE,take_next i0 (by omega)])
  simp only[List.length_append,List.length_cons,List.length_nil,Nat.zero_add] at hx
  have lA:A.length≤300:=by rw[hA,List.length_take];omega
  have lE:E.length≤300:=by rw[hE,List.length_take];omega
  refine gets_vc spH (fun _=> [1,4,5,6,7]) (fun k=>if k=0 then [⟨4,61,SeT⟩,⟨5,61,SeT⟩] else [⟨2,61,SeT⟩,⟨3,61,SeT⟩]) 400 (.fork (.hd 0) .stop) (V:=vq51 g S i A E) hmG (fun G R=>by kernel_rfl) ?_
  unfold vq51
  try dsimp only
  simp only[ew,take_len,so.1,so.2]
  simp (disch:=omega) only[oo,oop,ne_eq,Ty.dflt,reduceCtorEq]
  repeat' (first|with_reducible refine And.intro ?_ ?_|intro _)
  all_goals first|rfl|omega|assumption|trivial|exact room104 (by omega)|(exfalso;simp_all;done)|skip
theorem d41D (g:Gr):Con Tryd.prog 41 [] [g.d] ((.tup [.own 0 0 (seatsF g).1.length none,.own 1 0 (seatsF g).2.length none])) [] [.data 61 SeT (seatsF g).1,.data 61 SeT (seatsF g).2]:=by
 refine con_vc (how:=[none,none]) (c:=q41) (K:=(KK q41)) spH (fun _=> [1,4,5,6,7]) (fun k=>if k=0 then [⟨4,61,SeT⟩,⟨5,61,SeT⟩] else [⟨2,61,SeT⟩,⟨3,61,SeT⟩]) 400 (.fork .stop (.hd 0)) (V:=fun G R=>let yy0:=(Ty.int .i64);Con Tryd.prog 80 [] [D.agg [D.v (Value.int .i64 g.h),D.v (Value.int .i64 g.w),D.sl false false Ty.bool g.B,D.sl false false Ty.bool g.R,D.sl false false Ty.bool g.L]] (D.v (Value.int .i64 (checkF g))) [] []∧Value.int .i64 g.h=Value.int .i64 g.h∧Value.int .i64 g.w=Value.int .i64 g.w∧g.B=g.B∧g.R=g.R∧g.L=g.L∧((checkF g !=(0:Int))=true→R (D.tup [D.own 0 0 0 none,D.own 1 0 0 none],[],[Row.data 61 (yy0.prod yy0) [],Row.data 61 (yy0.prod yy0) []]))∧((checkF g !=(0:Int))=false→Con Tryd.prog 38 [] [D.agg [D.v (Value.int .i64 g.h),D.v (Value.int .i64 g.w),D.sl false false Ty.bool g.B,D.sl false false Ty.bool g.R,D.sl false false Ty.bool g.L]] (D.own 0 0 (slotsF g).length none) [] [Row.data 50 (yy0.prod (Ty.bool.prod yy0.sl)) (slotsF g)]∧Value.int .i64 g.h=Value.int .i64 g.h∧Value.int .i64 g.w=Value.int .i64 g.w∧g.B=g.B∧g.R=g.R∧g.L=g.L∧SameK (KK q41 0) (KK q41 0)∧G 0 (stOf 36 [1,4,5,6,7] [D.ptr 0 0 0,D.own 1 0 0 none,D.own 2 0 0 none,D.own 3 0 (slotsF g).length none,D.v (Value.int .i64 (0:Int))] [Slot.live (Row.box 46 [D.v (Value.int .i64 g.h),D.v (Value.int .i64 g.w),D.sl false false Ty.bool g.B,D.sl false false Ty.bool g.R,D.sl false false Ty.bool g.L]),Slot.live (Row.data 61 (yy0.prod yy0) []),Slot.live (Row.data 61 (yy0.prod yy0) []),Slot.live (Row.data 50 (yy0.prod (Ty.bool.prod yy0.sl)) (slotsF g))]))) hmG Tryd.func41 (by kernel_rfl) (by kernel_rfl) (fun G R=>by kernel_rfl) ?_
 try dsimp only
 try dsimp only
 have c:=d44 g
 have c2:=d100 g
 by_cases hc:checkF g=0
 ·have hw:=hw_in (chk0.1 hc).1 (chk0.1 hc).2.1
  have hx:=e41D g hc (slotsF g) rfl (fun x hx=>by
   have es:slotsF g=slotsFrom g (g.h*g.w).toNat 0 0:=if_pos hc
   rw[es] at hx
   have:=(slots_open _ _ _ x hx).1
   omega) (g.h*g.w).toNat 0 (by omega) (by omega) [] [] (by simp) (by simp)
  rw[hc] at c⊢
  simp (disch:=omega) only[oo,oop,ne_eq,Ty.dflt,reduceCtorEq]
  repeat' (first|with_reducible refine And.intro ?_ ?_|intro _)
  all_goals first|rfl|omega|assumption|trivial|(exfalso;simp_all;done)|skip
 ·have e:seatsF g=([],[]):=if_neg hc
  rw[e]
  simp (disch:=omega) only[oo,oop,ne_eq,Ty.dflt,reduceCtorEq]
  repeat' (first|with_reducible refine And.intro ?_ ?_|intro _)
  all_goals first|rfl|omega|assumption|trivial|(exfalso;simp_all;done)|skip
end Go.Proofs.YtnakmganodkliaaDoorAm
set_option maxRecDepth 100000
namespace Go.Proofs.YtnakmganodkliaaDoorAm
open Go
def pairOk (A E:List (Int×Int)) (x:Int×Int):Bool:=decide (0≤x.1∧x.1<A.length∧0≤x.2∧x.2≤63)&&(decide (0≤(A.getD x.1.toNat (0,0)).1)||decide (0≤(E.getD x.1.toNat (0,0)).1))
def oddP (A E:List (Int×Int)) (x:Int×Int):Bool:= !pairOk A E x
def findP (f:Int×Int→Bool):Int→List (Int×Int)→Int
 |_,[]=> -1
 |k,x::xs=>if f x then k else findP f (k+1) xs
theorem findP_any (f:Int×Int→Bool):∀(l:List (Int×Int)) (k:Int),0≤k→decide (findP f k l≥0)=l.any f
 | [],k,_=>rfl
 |x::xs,k,h=>by
  rw[List.any_cons]
  by_cases hf:f x=true
  ·have e:findP f k (x::xs)=k:=by simp only[findP,hf,if_true]
   rw[e,hf,Bool.true_or]
   exact decide_eq_true h
  ·have hf':f x=false:=by simpa using hf
   have e:findP f k (x::xs)=findP f (k+1) xs:=by simp only[findP,hf',Bool.false_eq_true,if_false]
   rw[e,hf',Bool.false_or]
   exact findP_any f xs (k+1) (by omega)
abbrev oddD (A E:List (Int×Int)):D:= .fn 90 [.rptr [slQ A],.rptr [slQ E]]
def checkN (p:Pr) (A E:List (Int×Int)) (B:List (List (Int×Int))):Nat→Int→Int×Int
 |0,_=>if B=[] then(0,151) else if(B.getD (B.length-1) []).length>0 then((B.length:Int),151) else(0,0)
 |z+1,i=>if(B.getD i.toNat []).any (oddP A E) then(i,150) else if(spreadG p (B.getD i.toNat []) (B.take i.toNat)).2 then(i,151) else checkN p A E B z (i+1)
def checkR (p:Pr) (B:List (List (Int×Int))):Int×Int:=if checkP p=0 then(if(B.length:Int)>65000 then(0,2) else checkN p (seatsF p.g).1 (seatsF p.g).2 B B.length 0) else(0,checkP p)
def spS:Sp:=fun f args rd=>match f,args with
 |93,[a,e,.agg [.v (.int _ c),.v (.int _ y)]]=>match slC rd SeT [a],slC rd SeT [e] with
  |some A,some E=>some {f:=93,args:=[slQ A,slQ E,.agg [.v (.int .i64 c),.v (.int .i64 y)]],val:= .v (.bool (pairOk A E (c,y))),lent:=refsDs [a,e]}
  |_,_=>none
 |90,[.agg [.v (.int _ c),.v (.int _ y)],.rptr [a],.rptr [e]]=>match slC rd SeT [a],slC rd SeT [e] with
  |some A,some E=>some {f:=90,args:=[.agg [.v (.int .i64 c),.v (.int .i64 y)],.rptr [slQ A],.rptr [slQ E]],val:= .v (.bool (oddP A E (c,y)))}
  |_,_=>none
 |121,[l,.fn 90 [.rptr [a],.rptr [e]]]=>match slC rd SeT [l],slC rd SeT [a],slC rd SeT [e] with
  |some L,some A,some E=>some {f:=121,args:=[slQ L,oddD A E],val:= .v (.int .i64 (findP (oddP A E) 0 L)),lent:=refsDs [l]}
  |_,_,_=>none
 |91,[l,.fn 90 [.ptr b1 _ _,.ptr b2 _ _]]=>match rd b1,rd b2 with
  |some (.box _ [a]),some (.box _ [e])=>match slC rd SeT [l],slC rd SeT [a],slC rd SeT [e] with
   |some L,some A,some E=>some {f:=91,args:=[slQ L,oddD A E],val:= .v (.bool (L.any (oddP A E))),lent:=b1::b2::refsDs [l,a,e]}
   |_,_,_=>none
  |_,_=>none
 |40,[.agg [.v (.int _ h),.v (.int _ w),b,r,l]]=>withW rd h w b r l fun g ls=>some {f:=40,args:=[g.d],val:= .tup [.own 0 0 (seatsF g).1.length none,.own 1 0 (seatsF g).2.length none],allocs:=[.data 61 SeT (seatsF g).1,.data 61 SeT (seatsF g).2],lent:=ls}
 |41,[.agg [.v (.int _ h),.v (.int _ w),b,r,l]]=>withW rd h w b r l fun g ls=>some {f:=41,args:=[g.d],val:= .tup [.own 0 0 (seatsF g).1.length none,.own 1 0 (seatsF g).2.length none],allocs:=[.data 61 SeT (seatsF g).1,.data 61 SeT (seatsF g).2],lent:=ls}
 |f,args=>spR f args rd
noncomputable def r121:Code:=(Tryd.f121.body).getD .skip
noncomputable def r91:Code:=(Tryd.f91.body).getD .skip
end Go.Proofs.YtnakmganodkliaaDoorAm
set_option maxRecDepth 100000
namespace Go.Proofs.YtnakmganodkliaaDoorAm
open Go
theorem d93R (A E:List (Int×Int)) (c y:Int) (hl:E.length=A.length):Con Tryd.prog 93 [] [slQ A,slQ E,.agg [.v (.int .i64 c),.v (.int .i64 y)]] (.v (.bool (pairOk A E (c,y)))) [] []:=by
 refine con_vc (how:=[none]) (c:=r93) (K:=(KK r93)) spS (fun _=> []) (fun _=> []) 400 (.fork (.t (.t (.t .stop))) (.fork (.t (.t .stop)) (.fork (.t .stop) (.fork .stop (.fork .stop .stop))))) (V:=fun G R=>let yy0:=((Ty.int .i64).prod (Ty.int .i64));(decide (c< (0:Int))=true→true=true∧true=true∧true=true∧R (D.v (Value.bool false),[],[]))∧(decide (c< (0:Int))=false→(decide (c≥(↑A.length:Int))=true→true=true∧true=true∧R (D.v (Value.bool false),[],[]))∧(decide (c≥(↑A.length:Int))=false→(decide (y< (0:Int))=true→true=true∧R (D.v (Value.bool false),[],[]))∧(decide (y< (0:Int))=false→(decide (y>(63:Int))=true→R (D.v (Value.bool false),[],[]))∧(decide (y>(63:Int))=false→(0:Int)≤c∧c< (↑A.length:Int)∧(decide ((A.getD c.toNat yy0.dflt).fst≥(0:Int))=true→R (D.v (Value.bool true),[],[]))∧(decide ((A.getD c.toNat yy0.dflt).fst≥(0:Int))=false→(0:Int)≤c∧c< (↑E.length:Int)∧R (D.v (Value.bool (decide ((E.getD c.toNat yy0.dflt).fst≥(0:Int)))),[],[]))))))) hmG Tryd.func93 (by kernel_rfl) (by kernel_rfl) (fun G R=>by kernel_rfl) ?_
 try dsimp only
 try dsimp only
 obtain⟨p,hp⟩:∃p,A.getD c.toNat (0,0)=p:=⟨_,rfl⟩
 obtain⟨e,he⟩:∃e,E.getD c.toNat (0,0)=e:=⟨_,rfl⟩
 simp only[Ty.dflt,hp,he]
 by_cases h:0≤c∧c<A.length∧0≤y∧y≤63
 ·have hd:decide (0≤c∧c< (A.length:Int)∧0≤y∧y≤63)=true:=decide_eq_true h
  obtain⟨b,hb⟩:∃b,pairOk A E (c,y)=b:=⟨_,rfl⟩
  have hv:b=(decide (0≤p.1)||decide (0≤e.1)):=by
   rw[←hb]
   simp only[oddP,pairOk,hp,he,hd,Bool.true_and]
  rw[hb]
  by_cases hp0:0≤p.1
  ·have e1:decide (p.1≥0)=true:=decide_eq_true hp0
   have e2:decide (p.1<0)=false:=decide_eq_false (by omega)
   have e3:decide (0≤p.1)=true:=decide_eq_true hp0
   rw[e3,Bool.true_or] at hv
   subst hv
   simp only[e1,e2]
   simp (disch:=omega) only[oo,oop,ne_eq,Ty.dflt,reduceCtorEq]
   repeat' (first|with_reducible refine And.intro ?_ ?_|intro _)
   all_goals first|rfl|omega|assumption|trivial|(exfalso;simp_all;done)|(exfalso;omega)|skip
  ·have e1:decide (p.1≥0)=false:=decide_eq_false hp0
   have e2:decide (p.1<0)=true:=decide_eq_true (by omega)
   have e3:decide (0≤p.1)=false:=decide_eq_false hp0
   rw[e3,Bool.false_or] at hv
   have e4:decide (e.1<0)= !decide (0≤e.1):=by
    by_cases q:0≤e.1
    ·rw[decide_eq_true q,decide_eq_false (by omega)]
     rfl
    ·rw[decide_eq_false q,decide_eq_true (by omega)]
     rfl
   subst hv
   simp only[e1,e2,e4,ge_iff_le]
   simp (disch:=omega) only[oo,oop,ne_eq,Ty.dflt,reduceCtorEq]
   repeat' (first|with_reducible refine And.intro ?_ ?_|intro _)
   all_goals first|rfl|omega|assumption|trivial|(exfalso;simp_all;done)|(exfalso;omega)|skip
 ·have hd:decide (0≤c∧c< (A.length:Int)∧0≤y∧y≤63)=false:=decide_eq_false h
  have hv:pairOk A E (c,y)=false:=by
   simp only[oddP,pairOk,hd,Bool.false_and,Bool.not_false]
  rw[hv]
  by_cases h1:c<0
  ·have q:decide (c<0)=true:=decide_eq_true h1
   simp only[q]
   simp (disch:=omega) only[oo,oop,ne_eq,Ty.dflt,reduceCtorEq]
   repeat' (first|with_reducible refine And.intro ?_ ?_|intro _)
   all_goals first|rfl|omega|assumption|trivial|(exfalso;simp_all;done)|(exfalso;omega)|skip
  ·by_cases h2:c≥A.length
   ·have q:decide (c≥(A.length:Int))=true:=decide_eq_true h2
    simp only[q]
    simp (disch:=omega) only[oo,oop,ne_eq,Ty.dflt,reduceCtorEq]
    repeat' (first|with_reducible refine And.intro ?_ ?_|intro _)
    all_goals first|rfl|omega|assumption|trivial|(exfalso;simp_all;done)|(exfalso;omega)|skip
   ·by_cases h3:y<0
    ·have q:decide (y<0)=true:=decide_eq_true h3
     simp only[q]
     simp (disch:=omega) only[oo,oop,ne_eq,Ty.dflt,reduceCtorEq]
     repeat' (first|with_reducible refine And.intro ?_ ?_|intro _)
     all_goals first|rfl|omega|assumption|trivial|(exfalso;simp_all;done)|(exfalso;omega)|skip
    ·have q:decide (y>63)=true:=decide_eq_true (by omega)
     simp only[q]
     simp (disch:=omega) only[oo,oop,ne_eq,Ty.dflt,reduceCtorEq]
     repeat' (first|with_reducible refine And.intro ?_ ?_|intro _)
     all_goals first|rfl|omega|assumption|trivial|(exfalso;simp_all;done)|(exfalso;omega)|skip
theorem d90R (A E:List (Int×Int)) (c y:Int) (hl:E.length=A.length):Con Tryd.prog 90 [] [.agg [.v (.int .i64 c),.v (.int .i64 y)],.rptr [slQ A],.rptr [slQ E]] (.v (.bool (oddP A E (c,y)))) [] []:=by
 refine con_vc (how:=[none]) (c:=r90) (K:=(KK r90)) spS (fun _=> []) (fun _=> []) 400 (.fork (.t (.t (.t .stop))) (.fork (.t (.t .stop)) (.fork (.t .stop) (.fork .stop (.fork .stop .stop))))) (V:=fun G R=>let yy0:=((Ty.int .i64).prod (Ty.int .i64));(decide (c< (0:Int))=true→true=true∧true=true∧true=true∧R (D.v (Value.bool true),[],[]))∧(decide (c< (0:Int))=false→(decide (c≥(↑A.length:Int))=true→true=true∧true=true∧R (D.v (Value.bool true),[],[]))∧(decide (c≥(↑A.length:Int))=false→(decide (y< (0:Int))=true→true=true∧R (D.v (Value.bool true),[],[]))∧(decide (y< (0:Int))=false→(decide (y>(63:Int))=true→R (D.v (Value.bool true),[],[]))∧(decide (y>(63:Int))=false→(0:Int)≤c∧c< (↑A.length:Int)∧(decide ((A.getD c.toNat yy0.dflt).fst< (0:Int))=true→(0:Int)≤c∧c< (↑E.length:Int)∧R (D.v (Value.bool (decide ((E.getD c.toNat yy0.dflt).fst< (0:Int)))),[],[]))∧(decide ((A.getD c.toNat yy0.dflt).fst< (0:Int))=false→R (D.v (Value.bool false),[],[]))))))) hmG Tryd.func90 (by kernel_rfl) (by kernel_rfl) (fun G R=>by kernel_rfl) ?_
 try dsimp only
 try dsimp only
 obtain⟨p,hp⟩:∃p,A.getD c.toNat (0,0)=p:=⟨_,rfl⟩
 obtain⟨e,he⟩:∃e,E.getD c.toNat (0,0)=e:=⟨_,rfl⟩
 simp only[Ty.dflt,hp,he]
 by_cases h:0≤c∧c<A.length∧0≤y∧y≤63
 ·have hd:decide (0≤c∧c< (A.length:Int)∧0≤y∧y≤63)=true:=decide_eq_true h
  obtain⟨b,hb⟩:∃b,oddP A E (c,y)=b:=⟨_,rfl⟩
  have hv:b= !(decide (0≤p.1)||decide (0≤e.1)):=by
   rw[←hb]
   simp only[oddP,pairOk,hp,he,hd,Bool.true_and]
  rw[hb]
  by_cases hp0:0≤p.1
  ·have e1:decide (p.1≥0)=true:=decide_eq_true hp0
   have e2:decide (p.1<0)=false:=decide_eq_false (by omega)
   have e3:decide (0≤p.1)=true:=decide_eq_true hp0
   rw[e3,Bool.true_or] at hv
   subst hv
   simp only[e1,e2]
   simp (disch:=omega) only[oo,oop,ne_eq,Ty.dflt,reduceCtorEq]
   repeat' (first|with_reducible refine And.intro ?_ ?_|intro _)
   all_goals first|rfl|omega|assumption|trivial|(exfalso;simp_all;done)|(exfalso;omega)|skip
  ·have e1:decide (p.1≥0)=false:=decide_eq_false hp0
   have e2:decide (p.1<0)=true:=decide_eq_true (by omega)
   have e3:decide (0≤p.1)=false:=decide_eq_false hp0
   rw[e3,Bool.false_or] at hv
   have e4:decide (e.1<0)= !decide (0≤e.1):=by
    by_cases q:0≤e.1
    ·rw[decide_eq_true q,decide_eq_false (by omega)]
     rfl
    ·rw[decide_eq_false q,decide_eq_true (by omega)]
     rfl
   subst hv
   simp only[e1,e2,e4,ge_iff_le]
   simp (disch:=omega) only[oo,oop,ne_eq,Ty.dflt,reduceCtorEq]
   repeat' (first|with_reducible refine And.intro ?_ ?_|intro _)
   all_goals first|rfl|omega|assumption|trivial|(exfalso;simp_all;done)|(exfalso;omega)|skip
 ·have hd:decide (0≤c∧c< (A.length:Int)∧0≤y∧y≤63)=false:=decide_eq_false h
  have hv:oddP A E (c,y)=true:=by
   simp only[oddP,pairOk,hd,Bool.false_and,Bool.not_false]
  rw[hv]
  by_cases h1:c<0
  ·have q:decide (c<0)=true:=decide_eq_true h1
   simp only[q]
   simp (disch:=omega) only[oo,oop,ne_eq,Ty.dflt,reduceCtorEq]
   repeat' (first|with_reducible refine And.intro ?_ ?_|intro _)
   all_goals first|rfl|omega|assumption|trivial|(exfalso;simp_all;done)|(exfalso;omega)|skip
  ·by_cases h2:c≥A.length
   ·have q:decide (c≥(A.length:Int))=true:=decide_eq_true h2
    simp only[q]
    simp (disch:=omega) only[oo,oop,ne_eq,Ty.dflt,reduceCtorEq]
    repeat' (first|with_reducible refine And.intro ?_ ?_|intro _)
    all_goals first|rfl|omega|assumption|trivial|(exfalso;simp_all;done)|(exfalso;omega)|skip
   ·by_cases h3:y<0
    ·have q:decide (y<0)=true:=decide_eq_true h3
     simp only[q]
     simp (disch:=omega) only[oo,oop,ne_eq,Ty.dflt,reduceCtorEq]
     repeat' (first|with_reducible refine And.intro ?_ ?_|intro _)
     all_goals first|rfl|omega|assumption|trivial|(exfalso;simp_all;done)|(exfalso;omega)|skip
    ·have q:decide (y>63)=true:=decide_eq_true (by omega)
     simp only[q]
     simp (disch:=omega) only[oo,oop,ne_eq,Ty.dflt,reduceCtorEq]
     repeat' (first|with_reducible refine And.intro ?_ ?_|intro _)
     all_goals first|rfl|omega|assumption|trivial|(exfalso;simp_all;done)|(exfalso;omega)|skip
def vq52 (A:List (Int×Int)) (E:List (Int×Int)) (L:List (Int×Int)) (k:Int) (G:Nat→St→Prop) (R:D×List (Option Row)×List Row→Prop):Prop:=let yy0:=((Ty.int .i64).prod (Ty.int .i64));let yy1:=(L.getD k.toNat yy0.dflt);(decide (k< (↑L.length:Int))=true→(0:Int)≤k∧k< (↑L.length:Int)∧Con Tryd.prog 90 [] [D.agg [D.v (Value.int .i64 yy1.fst),D.v (Value.int .i64 yy1.snd)],D.rptr [D.sl false false yy0 A],D.rptr [D.sl false false yy0 E]] (D.v (Value.bool (oddP A E (yy1.fst,yy1.snd)))) [] []∧Value.int .i64 yy1.fst=Value.int .i64 yy1.fst∧Value.int .i64 yy1.snd=Value.int .i64 yy1.snd∧A=A∧E=E∧(oddP A E (yy1.fst,yy1.snd)=true→R (D.v (Value.int .i64 k),[],[]))∧(oddP A E (yy1.fst,yy1.snd)=false→SameK (KK r121 0) (KK r121 0)∧G 0 (stOf 19 [0,1,6,7,8] [D.sl false false yy0 L,D.fn 90 [D.rptr [D.sl false false yy0 A],D.rptr [D.sl false false yy0 E]],D.sl false false yy0 L,D.v (Value.int .i64 (↑L.length:Int)),D.v (Value.int .i64 (IntKind.i64.wrap (k+(1:Int))))] [])))∧(decide (k< (↑L.length:Int))=false→R (D.v (Value.int .i64 (-1:Int)),[],[]))
theorem e121 (A E:List (Int×Int)) (L:List (Int×Int)) (hl:E.length=A.length) (hL:L.length≤8796093022208) (z:Nat):∀(k:Int),0≤k→k+z=L.length→∀r,r=findP (oddP A E) k (L.drop k.toNat)→GetsK Tryd.prog Tryd.f121.results.toList [none] (KK r121) 0 (.v (.int .i64 r),[],[]) 0 (stOf 19 [0,1,6,7,8] [slQ L,oddD A E,slQ L,.v (.int .i64 L.length),.v (.int .i64 k)] []):=by
 induction z with
 |zero=>
  intro k k0 hk r hr
  rw[List.drop_eq_nil_of_le (by omega)] at hr
  have hr:r= -1:=hr
  subst hr
  refine gets_vc spS (fun _=> [0,1,6,7,8]) (fun _=> []) 400 (.fork (.fork .stop (.hd 0)) .stop) (V:=vq52 A E L k) hmG (fun G R=>by kernel_rfl) ?_
  unfold vq52
  try dsimp only
  simp (disch:=omega) only[oo,oop,ne_eq,Ty.dflt,reduceCtorEq]
  repeat' (first|with_reducible refine And.intro ?_ ?_|intro _)
  all_goals first|rfl|omega|assumption|trivial|(exfalso;simp_all;done)|(exfalso;omega)|skip
 |succ z ih=>
  intro k k0 hk r hr
  have hk1:IntKind.i64.wrap (k+1)=k+1:=wrG (by omega) (by omega)
  rw[drop_at (xs:=L) (i:=k) (0,0) k0 (by omega)] at hr
  have h1:=ih (k+1) (by omega) (by omega) _ rfl
  obtain⟨a,ha⟩:∃a,L.getD k.toNat (0,0)=a:=⟨_,rfl⟩
  rw[ha] at hr
  have c1:=d90R A E a.1 a.2 hl
  have ea:((a.1,a.2):Int×Int)=a:=rfl
  rw[ea] at c1
  refine gets_vc spS (fun _=> [0,1,6,7,8]) (fun _=> []) 400 (.fork (.fork .stop (.hd 0)) .stop) (V:=vq52 A E L k) hmG (fun G R=>by kernel_rfl) ?_
  unfold vq52
  try dsimp only
  simp only[Ty.dflt,hk1,ha]
  rw[ea]
  by_cases hf:oddP A E a=true
  ·have hr:r=k:=by rw[hr];simp only[findP,hf,if_true]
   subst hr
   rw[hf] at c1
   simp only[hf]
   simp (disch:=omega) only[oo,oop,ne_eq,Ty.dflt,reduceCtorEq]
   repeat' (first|with_reducible refine And.intro ?_ ?_|intro _)
   all_goals first|rfl|omega|assumption|trivial|(exfalso;simp_all;done)|(exfalso;omega)|skip
  ·have hf':oddP A E a=false:=by simpa using hf
   have hr:r=findP (oddP A E) (k+1) (L.drop (k+1).toNat):=by rw[hr];simp only[findP,hf',Bool.false_eq_true,if_false]
   rw[←hr] at h1
   rw[hf'] at c1
   simp only[hf']
   simp (disch:=omega) only[oo,oop,ne_eq,Ty.dflt,reduceCtorEq]
   repeat' (first|with_reducible refine And.intro ?_ ?_|intro _)
   all_goals first|rfl|omega|assumption|trivial|(exfalso;simp_all;done)|(exfalso;omega)|skip
theorem d121R (A E:List (Int×Int)) (L:List (Int×Int)) (hl:E.length=A.length) (hL:L.length≤8796093022208):Con Tryd.prog 121 [] [slQ L,oddD A E] (.v (.int .i64 (findP (oddP A E) 0 L))) [] []:=by
 refine con_vc (how:=[none]) (c:=r121) (K:=(KK r121)) spS (fun _=> [0,1,6,7,8]) (fun _=> []) 400 (.hd 0) (V:=fun G R=>let yy0:=((Ty.int .i64).prod (Ty.int .i64));SameK (KK r121 0) (KK r121 0)∧G 0 (stOf 19 [0,1,6,7,8] [D.sl false false yy0 L,D.fn 90 [D.rptr [D.sl false false yy0 A],D.rptr [D.sl false false yy0 E]],D.sl false false yy0 L,D.v (Value.int .i64 (↑L.length:Int)),D.v (Value.int .i64 (0:Int))] [])) hmG Tryd.func121 (by kernel_rfl) (by kernel_rfl) (fun G R=>by kernel_rfl) ?_
 try dsimp only
 try dsimp only
 have hx:=e121 A E L hl hL L.length 0 (by omega) (by omega) _ rfl
 simp (disch:=omega) only[oo,oop,ne_eq,Ty.dflt,reduceCtorEq]
 repeat' (first|with_reducible refine And.intro ?_ ?_|intro _)
 all_goals first|rfl|omega|assumption|trivial|(exfalso;simp_all;done)|(exfalso;omega)|skip
theorem d91R (A E:List (Int×Int)) (L:List (Int×Int)) (hl:E.length=A.length) (hL:L.length≤8796093022208):Con Tryd.prog 91 [] [slQ L,oddD A E] (.v (.bool (L.any (oddP A E)))) [] []:=by
 refine con_vc (how:=[none]) (c:=r91) (K:=(KK r91)) spS (fun _=> []) (fun _=> []) 400 .stop (V:=fun G R=>let yy0:=((Ty.int .i64).prod (Ty.int .i64));Con Tryd.prog 121 [] [D.sl false false yy0 L,D.fn 90 [D.rptr [D.sl false false yy0 A],D.rptr [D.sl false false yy0 E]]] (D.v (Value.int .i64 (findP (oddP A E) (0:Int) L))) [] []∧L=L∧A=A∧E=E∧R (D.v (Value.bool (decide (findP (oddP A E) (0:Int) L≥(0:Int)))),[],[])) hmG Tryd.func91 (by kernel_rfl) (by kernel_rfl) (fun G R=>by kernel_rfl) ?_
 try dsimp only
 try dsimp only
 have c1:=d121R A E L hl hL
 have e1:=findP_any (oddP A E) L 0 (by omega)
 rw[e1]
 simp (disch:=omega) only[oo,oop,ne_eq,Ty.dflt,reduceCtorEq]
 repeat' (first|with_reducible refine And.intro ?_ ?_|intro _)
 all_goals first|rfl|omega|assumption|trivial|(exfalso;simp_all;done)|(exfalso;omega)|skip
end Go.Proofs.YtnakmganodkliaaDoorAm
set_option maxRecDepth 100000
namespace Go.Proofs.YtnakmganodkliaaDoorAm
open Go
theorem in_range {A E:List (Int×Int)} {l:List (Int×Int)} (h:l.any (oddP A E)=false):∀x∈l,0≤x.1∧x.1<A.length:=by
 intro x hx
 rw[List.any_eq_false] at h
 have h1:=h x hx
 have h2:pairOk A E x=true:=by
  unfold oddP at h1
  simpa using h1
 unfold pairOk at h2
 rw[Bool.and_eq_true,decide_eq_true_eq] at h2
 exact⟨h2.1.1,h2.1.2.1⟩
theorem take_odd {A E:List (Int×Int)} {B:List (List (Int×Int))} {i:Int} (i0:0≤i) (hi:i<B.length) (h:∀l∈B.take i.toNat,l.any (oddP A E)=false) (hl:(B.getD i.toNat []).any (oddP A E)=false):∀l∈B.take (i+1).toNat,l.any (oddP A E)=false:=by
 intro l hm
 rw[take_succ_at ([]:List (Int×Int)) B i0 (by omega),List.mem_append,List.mem_singleton] at hm
 rcases hm with hm|hm
 ·exact h l hm
 ·rw[hm];exact hl
def vq53 (g:Gr) (W:List (List Int)) (M:List Nat) (B:List (List (Int×Int))) (A:List (Int×Int)) (E:List (Int×Int)) (i:Int) (G:Nat→St→Prop) (R:D×List (Option Row)×List Row→Prop):Prop:=let yy0:=((Ty.int .i64).prod (Ty.int .i64));let yy1:=(spreadG (Pr.mk g W (Nt (Mi M))) (B.getD i.toNat yy0.sl.dflt) (List.take (i.toNat-0) (List.drop 0 B)));let yy2:=(Pr.mk g W (Nt (Mi M)));let yy3:=(↑B.length:Int);let yy4:=(oddP (List.take A.length (List.drop 0 A)) (List.take E.length (List.drop 0 E)));let yy5:=(B.getD i.toNat yy0.sl.dflt);let yy6:=((↑(List.length (B.getD (IntKind.i64.wrap (yy3-(1:Int))).toNat yy0.sl.dflt)):Int)>(0:Int));(decide (i<yy3)=true→(0:Int)≤i∧i<yy3∧Con Tryd.prog 91 [] [D.sl false false yy0 yy5,D.fn 90 [D.rptr [D.sl false false yy0 (List.take A.length (List.drop 0 A))],D.rptr [D.sl false false yy0 (List.take E.length (List.drop 0 E))]]] (D.v (Value.bool (List.any yy5 yy4))) [] []∧B.getD i.toNat yy0.sl.dflt=B.getD i.toNat yy0.sl.dflt∧List.take A.length (List.drop 0 A)=List.take A.length (List.drop 0 A)∧List.take E.length (List.drop 0 E)=List.take E.length (List.drop 0 E)∧(List.any yy5 yy4=true→R (D.tup [D.v (Value.int .i64 i),D.v (Value.int .i64 (150:Int))],[],[]))∧(List.any yy5 yy4=false→(0:Int)≤(0:Int)∧(0:Int)≤i∧i≤yy3∧Con Tryd.prog 92 [] [D.agg [D.v (Value.int .i64 yy2.g.h),D.v (Value.int .i64 yy2.g.w),D.sl false false Ty.bool yy2.g.B,D.sl false false Ty.bool yy2.g.R,D.sl false false Ty.bool yy2.g.L,D.sl false false (Ty.int .i64).sl yy2.W,D.sl false false (Ty.int .u64) (Mi yy2.M)],D.sl false false yy0 yy5,D.sl false false yy0.sl (List.take (i.toNat-0) (List.drop 0 B))] (D.tup [D.own 0 0 yy1.fst.length none,D.v (Value.bool yy1.snd)]) [] [Row.data 22 (Ty.int .u64) (Mi yy1.fst)]∧Value.int .i64 g.h=Value.int .i64 yy2.g.h∧Value.int .i64 g.w=Value.int .i64 yy2.g.w∧g.B=yy2.g.B∧g.R=yy2.g.R∧g.L=yy2.g.L∧W=yy2.W∧Mi M=Mi yy2.M∧B.getD i.toNat yy0.sl.dflt=B.getD i.toNat yy0.sl.dflt∧List.take (i.toNat-0) (List.drop 0 B)=List.take (i.toNat-0) (List.drop 0 B)∧(yy1.snd=true→R (D.tup [D.v (Value.int .i64 i),D.v (Value.int .i64 (151:Int))],[],[]))∧(yy1.snd=false→SameK (KK r55 0) (KK r55 0)∧G 0 (stOf 67 [1,2,9,29,30,31] [D.sl false false yy0.sl B,D.ptr 0 0 0,D.fn 90 [D.ptr 1 0 0,D.ptr 2 0 0],D.sl false false yy0.sl B,D.v (Value.int .i64 yy3),D.v (Value.int .i64 (IntKind.i64.wrap (i+(1:Int))))] [Slot.live (Row.box 73 [D.v (Value.int .i64 g.h),D.v (Value.int .i64 g.w),D.sl false false Ty.bool g.B,D.sl false false Ty.bool g.R,D.sl false false Ty.bool g.L,D.sl false false (Ty.int .i64).sl W,D.sl false false (Ty.int .u64) (Mi M)]),Slot.live (Row.box 55 [D.own 3 0 A.length none]),Slot.live (Row.box 55 [D.own 4 0 E.length none]),Slot.live (Row.data 61 yy0 A),Slot.live (Row.data 61 yy0 E)]))))∧(decide (i<yy3)=false→((yy3==(0:Int))=true→true=true∧R (D.tup [D.v (Value.int .i64 yy3),D.v (Value.int .i64 (151:Int))],[],[]))∧((yy3==(0:Int))=false→(0:Int)≤IntKind.i64.wrap (yy3-(1:Int))∧IntKind.i64.wrap (yy3-(1:Int))<yy3∧(decide yy6=true→R (D.tup [D.v (Value.int .i64 yy3),D.v (Value.int .i64 (151:Int))],[],[]))∧(decide yy6=false→R (D.tup [D.v (Value.int .i64 (0:Int)),D.v (Value.int .i64 (0:Int))],[],[]))))
theorem e55 (g:Gr) (W:List (List Int)) (M:List Nat) (B:List (List (Int×Int))) (A E:List (Int×Int)) (hc:checkP ⟨g,W,M⟩=0) (hM:Smalls M) (hA:A.length=M.length) (hE:E.length=A.length) (hBn:B.length≤65000) (hBl:∀l∈B,l.length≤8796093022208) (z:Nat):∀(i:Int),0≤i→i+z=B.length→(∀l∈B.take i.toNat,l.any (oddP A E)=false)→∀r,r=checkN ⟨g,W,M⟩ A E B z i→GetsK Tryd.prog Tryd.f55.results.toList [none,none] (KK r55) 0 (.tup [.v (.int .i64 r.1),.v (.int .i64 r.2)],[],[]) 0 (stOf 67 [1,2,9,29,30,31] [slBd B,.ptr 0 0 0,.fn 90 [.ptr 1 0 0,.ptr 2 0 0],slBd B,.v (.int .i64 B.length),.v (.int .i64 i)] [.live (.box 73 [.v (.int .i64 g.h),.v (.int .i64 g.w),.sl false false .bool g.B,.sl false false .bool g.R,.sl false false .bool g.L,slW W,slU M]),.live (.box 55 [.own 3 0 A.length none]),.live (.box 55 [.own 4 0 E.length none]),.live (.data 61 SeT A),.live (.data 61 SeT E)]):=by
 induction z with
 |zero=>
  intro i i0 hi ht r hr
  refine gets_vc spS (fun _=> [1,2,9,29,30,31]) (fun _=> []) 400 (.fork (.fork .stop (.fork .stop (.hd 0))) (.fork (.t .stop) (.fork .stop .stop))) (V:=vq53 g W M B A E i) hmG (fun G R=>by kernel_rfl) ?_
  unfold vq53
  try dsimp only
  simp only[checkN] at hr
  by_cases hb:B=[]
  ·rw[if_pos hb] at hr
   subst hr
   subst hb
   have w1:((([]:List (List (Int×Int))).length:Int)==0)=true:=rfl
   simp only[w1]
   simp (disch:=omega) only[oo,oop,ne_eq,Ty.dflt,reduceCtorEq]
   repeat' (first|with_reducible refine And.intro ?_ ?_|intro _)
   all_goals first|rfl|omega|assumption|trivial|(exfalso;simp_all;done)|(exfalso;omega)|skip
  ·rw[if_neg hb] at hr
   have hl0:B.length≠0:=fun e=>hb (List.length_eq_zero_iff.1 e)
   have w1:((B.length:Int)==0)=false:=by rw[beq_eq_false_iff_ne];omega
   have w2:IntKind.i64.wrap ((B.length:Int)-1)=(B.length:Int)-1:=wrG (by omega) (by omega)
   have w3:((B.length:Int)-1).toNat=B.length-1:=by omega
   obtain⟨l,hll⟩:∃l,B.getD (B.length-1) []=l:=⟨_,rfl⟩
   rw[hll] at hr
   simp only[w1,w2,w3,Ty.dflt,hll]
   by_cases hz:l.length>0
   ·rw[if_pos hz] at hr
    subst hr
    have w4:decide ((l.length:Int)>0)=true:=decide_eq_true (by omega)
    simp only[w4]
    simp (disch:=omega) only[oo,oop,ne_eq,Ty.dflt,reduceCtorEq]
    repeat' (first|with_reducible refine And.intro ?_ ?_|intro _)
    all_goals first|rfl|omega|assumption|trivial|(exfalso;simp_all;done)|(exfalso;omega)|skip
   ·rw[if_neg hz] at hr
    subst hr
    have w4:decide ((l.length:Int)>0)=false:=decide_eq_false (by omega)
    simp only[w4]
    simp (disch:=omega) only[oo,oop,ne_eq,Ty.dflt,reduceCtorEq]
    repeat' (first|with_reducible refine And.intro ?_ ?_|intro _)
    all_goals first|rfl|omega|assumption|trivial|(exfalso;simp_all;done)|(exfalso;omega)|skip
 |succ z ih=>
  intro i i0 hi ht r hr
  have hk1:IntKind.i64.wrap (i+1)=i+1:=wrG (by omega) (by omega)
  have hln:=hBl _ (getD_in (d:=([]:List (Int×Int))) (k:=i.toNat) (l:=B) (by omega))
  have hto:=take_odd (A:=A) (E:=E) (B:=B) (i:=i) i0 (by omega) ht
  simp only[checkN] at hr
  obtain⟨l,hll⟩:∃l,B.getD i.toNat []=l:=⟨_,rfl⟩
  rw[hll] at hr hln hto
  have c91:=d91R A E l hE hln
  refine gets_vc spS (fun _=> [1,2,9,29,30,31]) (fun _=> []) 400 (.fork (.fork .stop (.fork .stop (.hd 0))) (.fork (.t .stop) (.fork .stop .stop))) (V:=vq53 g W M B A E i) hmG (fun G R=>by kernel_rfl) ?_
  unfold vq53
  try dsimp only
  simp only[Ty.dflt,hk1,hll,Nt_Mi,List.drop_zero,List.take_length,Nat.sub_zero]
  by_cases ha:l.any (oddP A E)=true
  ·rw[if_pos ha] at hr
   subst hr
   rw[ha] at c91
   simp only[ha]
   simp (disch:=omega) only[oo,oop,ne_eq,Ty.dflt,reduceCtorEq]
   repeat' (first|with_reducible refine And.intro ?_ ?_|intro _)
   all_goals first|rfl|omega|assumption|trivial|(exfalso;simp_all;done)|(exfalso;omega)|skip
  ·have ha':l.any (oddP A E)=false:=by simpa using ha
   rw[if_neg ha] at hr
   rw[ha'] at c91
   have c92:=d92 g W M l (B.take i.toNat) hc hM hln (by rw[←hA];exact in_range ha') (by simp;omega) (fun l' h'=>⟨hBl l' (List.mem_of_mem_take h'),by rw[←hA];exact in_range (ht l' h')⟩)
   obtain⟨s,hs⟩:∃s,spreadG ⟨g,W,M⟩ l (B.take i.toNat)=s:=⟨_,rfl⟩
   rw[hs] at hr c92
   simp only[ha',hs]
   by_cases hs2:s.2=true
   ·rw[if_pos hs2] at hr
    subst hr
    rw[hs2] at c92
    simp only[hs2]
    simp (disch:=omega) only[oo,oop,ne_eq,Ty.dflt,reduceCtorEq]
    repeat' (first|with_reducible refine And.intro ?_ ?_|intro _)
    all_goals first|rfl|omega|assumption|trivial|(exfalso;simp_all;done)|(exfalso;omega)|skip
   ·have hs3:s.2=false:=by simpa using hs2
    rw[if_neg hs2] at hr
    have hg:=ih (i+1) (by omega) (by omega) (hto ha') r hr
    rw[hs3] at c92
    simp only[hs3]
    simp (disch:=omega) only[oo,oop,ne_eq,Ty.dflt,reduceCtorEq]
    repeat' (first|with_reducible refine And.intro ?_ ?_|intro _)
    all_goals first|rfl|omega|assumption|trivial|(exfalso;simp_all;done)|(exfalso;omega)|skip
def vq54 (g:Gr) (W:List (List Int)) (M:List Nat) (B:List (List (Int×Int))) (A:List (Int×Int)) (E:List (Int×Int)) (i:Int) (k:Int) (G:Nat→St→Prop) (R:D×List (Option Row)×List Row→Prop):Prop:=let yy0:=((Ty.int .i64).prod (Ty.int .i64));let yy1:=(List.getD (B.getD i.toNat yy0.sl.dflt) k.toNat yy0.dflt);let yy2:=(Pr.mk g W (Nt (Mi M)));let yy3:=(Row.box 73 [D.v (Value.int .i64 g.h),D.v (Value.int .i64 g.w),D.sl false false Ty.bool g.B,D.sl false false Ty.bool g.R,D.sl false false Ty.bool g.L,D.sl false false (Ty.int .i64).sl W,D.sl false false (Ty.int .u64) (Mi M)]);let yy4:=(spreadG yy2 (B.getD i.toNat yy0.sl.dflt) (List.take (i.toNat-0) (List.drop 0 B)));let yy5:=(List.take A.length (List.drop 0 A));let yy6:=(List.take E.length (List.drop 0 E));let yy7:=(↑(List.length (B.getD i.toNat yy0.sl.dflt)):Int);(0:Int)≤i∧i< (↑B.length:Int)∧(decide (k<yy7)=true→(0:Int)≤i∧i< (↑B.length:Int)∧(0:Int)≤k∧k<yy7∧Con Tryd.prog 93 [] [D.sl false false yy0 yy5,D.sl false false yy0 yy6,D.agg [D.v (Value.int .i64 yy1.fst),D.v (Value.int .i64 yy1.snd)]] (D.v (Value.bool (pairOk yy5 yy6 (yy1.fst,yy1.snd)))) [] []∧List.take A.length (List.drop 0 A)=List.take A.length (List.drop 0 A)∧List.take E.length (List.drop 0 E)=List.take E.length (List.drop 0 E)∧Value.int .i64 yy1.fst=Value.int .i64 yy1.fst∧Value.int .i64 yy1.snd=Value.int .i64 yy1.snd∧((!pairOk yy5 yy6 (yy1.fst,yy1.snd))=true→R (D.tup [D.v (Value.int .i64 i),D.v (Value.int .i64 (150:Int))],[],[]))∧((!pairOk yy5 yy6 (yy1.fst,yy1.snd))=false→SameK (KK r56 1) (KK r56 1)∧G 1 (stOf 78 [1,2,7,8,9,10] [D.sl false false yy0.sl B,D.ptr 0 0 0,D.own 1 0 A.length none,D.own 2 0 E.length none,D.v (Value.int .i64 i),D.v (Value.int .i64 (IntKind.i64.wrap (k+(1:Int))))] [Slot.live yy3,Slot.live (Row.data 61 yy0 A),Slot.live (Row.data 61 yy0 E)])))∧(decide (k<yy7)=false→(0:Int)≤i∧i< (↑B.length:Int)∧(0:Int)≤(0:Int)∧(0:Int)≤i∧i≤(↑B.length:Int)∧Con Tryd.prog 94 [] [D.agg [D.v (Value.int .i64 yy2.g.h),D.v (Value.int .i64 yy2.g.w),D.sl false false Ty.bool yy2.g.B,D.sl false false Ty.bool yy2.g.R,D.sl false false Ty.bool yy2.g.L,D.sl false false (Ty.int .i64).sl yy2.W,D.sl false false (Ty.int .u64) (Mi yy2.M)],D.sl false false yy0 (B.getD i.toNat yy0.sl.dflt),D.sl false false yy0.sl (List.take (i.toNat-0) (List.drop 0 B))] (D.v (Value.bool !yy4.snd)) [] []∧Value.int .i64 g.h=Value.int .i64 yy2.g.h∧Value.int .i64 g.w=Value.int .i64 yy2.g.w∧g.B=yy2.g.B∧g.R=yy2.g.R∧g.L=yy2.g.L∧W=yy2.W∧Mi M=Mi yy2.M∧B.getD i.toNat yy0.sl.dflt=B.getD i.toNat yy0.sl.dflt∧List.take (i.toNat-0) (List.drop 0 B)=List.take (i.toNat-0) (List.drop 0 B)∧((!!yy4.snd)=true→R (D.tup [D.v (Value.int .i64 i),D.v (Value.int .i64 (151:Int))],[],[]))∧((!!yy4.snd)=false→SameK (KK r56 0) (KK r56 0)∧G 0 (stOf 78 [1,2,7,8,9] [D.sl false false yy0.sl B,D.ptr 0 0 0,D.own 1 0 A.length none,D.own 2 0 E.length none,D.v (Value.int .i64 (IntKind.i64.wrap (i+(1:Int))))] [Slot.live yy3,Slot.live (Row.data 61 yy0 A),Slot.live (Row.data 61 yy0 E)])))
theorem e56b (g:Gr) (W:List (List Int)) (M:List Nat) (B:List (List (Int×Int))) (A E:List (Int×Int)) (hc:checkP ⟨g,W,M⟩=0) (hM:Smalls M) (hA:A.length=M.length) (hE:E.length=A.length) (hBn:B.length≤65000) (hBl:∀l∈B,l.length≤8796093022208) (i:Int) (i0:0≤i) (i1:i<B.length) (ht:∀l∈B.take i.toNat,l.any (oddP A E)=false) (l:List (Int×Int)) (hll:B.getD i.toNat []=l) (hln:l.length≤8796093022208) (r':Int×Int) (hx:l.any (oddP A E)=false→GetsK Tryd.prog Tryd.f56.results.toList [none,none] (KK r56) 0 (.tup [.v (.int .i64 r'.1),.v (.int .i64 r'.2)],[],[]) 0 (stOf 78 [1,2,7,8,9] [slBd B,.ptr 0 0 0,.own 1 0 A.length none,.own 2 0 E.length none,.v (.int .i64 (i+1))] [.live (.box 73 [.v (.int .i64 g.h),.v (.int .i64 g.w),.sl false false .bool g.B,.sl false false .bool g.R,.sl false false .bool g.L,slW W,slU M]),.live (.data 61 SeT A),.live (.data 61 SeT E)])) (z:Nat):∀(k:Int),0≤k→k+z=l.length→(l.any (oddP A E)=(l.drop k.toNat).any (oddP A E))→∀r,r=(if(l.drop k.toNat).any (oddP A E) then(i,150) else if(spreadG ⟨g,W,M⟩ l (B.take i.toNat)).2 then(i,151) else r')→GetsK Tryd.prog Tryd.f56.results.toList [none,none] (KK r56) 0 (.tup [.v (.int .i64 r.1),.v (.int .i64 r.2)],[],[]) 1 (stOf 78 [1,2,7,8,9,10] [slBd B,.ptr 0 0 0,.own 1 0 A.length none,.own 2 0 E.length none,.v (.int .i64 i),.v (.int .i64 k)] [.live (.box 73 [.v (.int .i64 g.h),.v (.int .i64 g.w),.sl false false .bool g.B,.sl false false .bool g.R,.sl false false .bool g.L,slW W,slU M]),.live (.data 61 SeT A),.live (.data 61 SeT E)]):=by
 have hii:IntKind.i64.wrap (i+1)=i+1:=wrG (by omega) (by omega)
 induction z with
 |zero=>
  intro k k0 hk ha r hr
  rw[List.drop_eq_nil_of_le (by omega),List.any_nil] at hr ha
  rw[if_neg (by simp)] at hr
  have c94:=d94 g W M l (B.take i.toNat) hc hM hln (by rw[←hA];exact in_range ha) (by simp;omega) (fun l' h'=>⟨hBl l' (List.mem_of_mem_take h'),by rw[←hA];exact in_range (ht l' h')⟩)
  obtain⟨s,hs⟩:∃s,spreadG ⟨g,W,M⟩ l (B.take i.toNat)=s:=⟨_,rfl⟩
  rw[hs] at hr c94
  refine gets_vc spS (fun k=> [[1,2,7,8,9],[1,2,7,8,9,10]].getD k []) (fun _=> []) 400 (.fork (.fork .stop (.hd 1)) (.fork .stop (.hd 0))) (V:=vq54 g W M B A E i k) hmG (fun G R=>by kernel_rfl) ?_
  unfold vq54
  try dsimp only
  simp only[Ty.dflt,hii,hll,Nt_Mi,List.drop_zero,List.take_length,Nat.sub_zero,hs]
  by_cases hs2:s.2=true
  ·rw[if_pos hs2] at hr
   subst hr
   rw[hs2] at c94
   simp only[hs2,Bool.not_true,Bool.not_false]
   simp (disch:=omega) only[oo,oop,ne_eq,Ty.dflt,reduceCtorEq]
   repeat' (first|with_reducible refine And.intro ?_ ?_|intro _)
   all_goals first|rfl|omega|assumption|trivial|(exfalso;simp_all;done)|(exfalso;omega)|skip
  ·have hs3:s.2=false:=by simpa using hs2
   rw[if_neg hs2] at hr
   subst hr
   have hg:=hx ha
   rw[hs3] at c94
   simp only[hs3,Bool.not_true,Bool.not_false]
   simp (disch:=omega) only[oo,oop,ne_eq,Ty.dflt,reduceCtorEq]
   repeat' (first|with_reducible refine And.intro ?_ ?_|intro _)
   all_goals first|rfl|omega|assumption|trivial|(exfalso;simp_all;done)|(exfalso;omega)|skip
 |succ z ih=>
  intro k k0 hk ha r hr
  have hk1:IntKind.i64.wrap (k+1)=k+1:=wrG (by omega) (by omega)
  rw[drop_at (xs:=l) (i:=k) (0,0) k0 (by omega),List.any_cons] at hr ha
  obtain⟨a,haa⟩:∃a,l.getD k.toNat (0,0)=a:=⟨_,rfl⟩
  rw[haa] at hr ha
  have c93:=d93R A E a.1 a.2 hE
  have ea:((a.1,a.2):Int×Int)=a:=rfl
  rw[ea] at c93
  refine gets_vc spS (fun k=> [[1,2,7,8,9],[1,2,7,8,9,10]].getD k []) (fun _=> []) 400 (.fork (.fork .stop (.hd 1)) (.fork .stop (.hd 0))) (V:=vq54 g W M B A E i k) hmG (fun G R=>by kernel_rfl) ?_
  unfold vq54
  try dsimp only
  simp only[Ty.dflt,hk1,hll,haa,Nt_Mi,List.drop_zero,List.take_length,Nat.sub_zero]
  rw[ea]
  by_cases hp:pairOk A E a=true
  ·have ho:oddP A E a=false:=by unfold oddP;rw[hp];rfl
   rw[ho,Bool.false_or] at hr ha
   have hg:=ih (k+1) (by omega) (by omega) ha r hr
   rw[hp] at c93
   simp only[hp,Bool.not_true]
   simp (disch:=omega) only[oo,oop,ne_eq,Ty.dflt,reduceCtorEq]
   repeat' (first|with_reducible refine And.intro ?_ ?_|intro _)
   all_goals first|rfl|omega|assumption|trivial|(exfalso;simp_all;done)|(exfalso;omega)|skip
  ·have hp':pairOk A E a=false:=by simpa using hp
   have ho:oddP A E a=true:=by unfold oddP;rw[hp'];rfl
   rw[ho,Bool.true_or,if_pos rfl] at hr
   subst hr
   rw[hp'] at c93
   simp only[hp',Bool.not_false]
   simp (disch:=omega) only[oo,oop,ne_eq,Ty.dflt,reduceCtorEq]
   repeat' (first|with_reducible refine And.intro ?_ ?_|intro _)
   all_goals first|rfl|omega|assumption|trivial|(exfalso;simp_all;done)|(exfalso;omega)|skip
def vq55 (g:Gr) (W:List (List Int)) (M:List Nat) (B:List (List (Int×Int))) (A:List (Int×Int)) (E:List (Int×Int)) (i:Int) (G:Nat→St→Prop) (R:D×List (Option Row)×List Row→Prop):Prop:=let yy0:=((Ty.int .i64).prod (Ty.int .i64));let yy1:=(↑B.length:Int);let yy2:=((↑(List.length (B.getD (IntKind.i64.wrap (yy1-(1:Int))).toNat yy0.sl.dflt)):Int)>(0:Int));(decide (i<yy1)=true→SameK (KK r56 1) (KK r56 1)∧G 1 (stOf 78 [1,2,7,8,9,10] [D.sl false false yy0.sl B,D.ptr 0 0 0,D.own 1 0 A.length none,D.own 2 0 E.length none,D.v (Value.int .i64 i),D.v (Value.int .i64 (0:Int))] [Slot.live (Row.box 73 [D.v (Value.int .i64 g.h),D.v (Value.int .i64 g.w),D.sl false false Ty.bool g.B,D.sl false false Ty.bool g.R,D.sl false false Ty.bool g.L,D.sl false false (Ty.int .i64).sl W,D.sl false false (Ty.int .u64) (Mi M)]),Slot.live (Row.data 61 yy0 A),Slot.live (Row.data 61 yy0 E)]))∧(decide (i<yy1)=false→((yy1==(0:Int))=true→true=true∧R (D.tup [D.v (Value.int .i64 yy1),D.v (Value.int .i64 (151:Int))],[],[]))∧((yy1==(0:Int))=false→(0:Int)≤IntKind.i64.wrap (yy1-(1:Int))∧IntKind.i64.wrap (yy1-(1:Int))<yy1∧(decide yy2=true→R (D.tup [D.v (Value.int .i64 yy1),D.v (Value.int .i64 (151:Int))],[],[]))∧(decide yy2=false→R (D.tup [D.v (Value.int .i64 (0:Int)),D.v (Value.int .i64 (0:Int))],[],[]))))
theorem e56 (g:Gr) (W:List (List Int)) (M:List Nat) (B:List (List (Int×Int))) (A E:List (Int×Int)) (hc:checkP ⟨g,W,M⟩=0) (hM:Smalls M) (hA:A.length=M.length) (hE:E.length=A.length) (hBn:B.length≤65000) (hBl:∀l∈B,l.length≤8796093022208) (z:Nat):∀(i:Int),0≤i→i+z=B.length→(∀l∈B.take i.toNat,l.any (oddP A E)=false)→∀r,r=checkN ⟨g,W,M⟩ A E B z i→GetsK Tryd.prog Tryd.f56.results.toList [none,none] (KK r56) 0 (.tup [.v (.int .i64 r.1),.v (.int .i64 r.2)],[],[]) 0 (stOf 78 [1,2,7,8,9] [slBd B,.ptr 0 0 0,.own 1 0 A.length none,.own 2 0 E.length none,.v (.int .i64 i)] [.live (.box 73 [.v (.int .i64 g.h),.v (.int .i64 g.w),.sl false false .bool g.B,.sl false false .bool g.R,.sl false false .bool g.L,slW W,slU M]),.live (.data 61 SeT A),.live (.data 61 SeT E)]):=by
 induction z with
 |zero=>
  intro i i0 hi ht r hr
  refine gets_vc spS (fun k=> [[1,2,7,8,9],[1,2,7,8,9,10]].getD k []) (fun _=> []) 400 (.fork (.hd 1) (.fork (.t .stop) (.fork .stop .stop))) (V:=vq55 g W M B A E i) hmG (fun G R=>by kernel_rfl) ?_
  unfold vq55
  try dsimp only
  simp only[checkN] at hr
  by_cases hb:B=[]
  ·rw[if_pos hb] at hr
   subst hr
   subst hb
   have w1:((([]:List (List (Int×Int))).length:Int)==0)=true:=rfl
   simp only[w1]
   simp (disch:=omega) only[oo,oop,ne_eq,Ty.dflt,reduceCtorEq]
   repeat' (first|with_reducible refine And.intro ?_ ?_|intro _)
   all_goals first|rfl|omega|assumption|trivial|(exfalso;simp_all;done)|(exfalso;omega)|skip
  ·rw[if_neg hb] at hr
   have hl0:B.length≠0:=fun e=>hb (List.length_eq_zero_iff.1 e)
   have w1:((B.length:Int)==0)=false:=by rw[beq_eq_false_iff_ne];omega
   have w2:IntKind.i64.wrap ((B.length:Int)-1)=(B.length:Int)-1:=wrG (by omega) (by omega)
   have w3:((B.length:Int)-1).toNat=B.length-1:=by omega
   obtain⟨l,hll⟩:∃l,B.getD (B.length-1) []=l:=⟨_,rfl⟩
   rw[hll] at hr
   simp only[w1,w2,w3,Ty.dflt,hll]
   by_cases hz:l.length>0
   ·rw[if_pos hz] at hr
    subst hr
    have w4:decide ((l.length:Int)>0)=true:=decide_eq_true (by omega)
    simp only[w4]
    simp (disch:=omega) only[oo,oop,ne_eq,Ty.dflt,reduceCtorEq]
    repeat' (first|with_reducible refine And.intro ?_ ?_|intro _)
    all_goals first|rfl|omega|assumption|trivial|(exfalso;simp_all;done)|(exfalso;omega)|skip
   ·rw[if_neg hz] at hr
    subst hr
    have w4:decide ((l.length:Int)>0)=false:=decide_eq_false (by omega)
    simp only[w4]
    simp (disch:=omega) only[oo,oop,ne_eq,Ty.dflt,reduceCtorEq]
    repeat' (first|with_reducible refine And.intro ?_ ?_|intro _)
    all_goals first|rfl|omega|assumption|trivial|(exfalso;simp_all;done)|(exfalso;omega)|skip
 |succ z ih=>
  intro i i0 hi ht r hr
  have hln:=hBl _ (getD_in (d:=([]:List (Int×Int))) (k:=i.toNat) (l:=B) (by omega))
  have hto:=take_odd (A:=A) (E:=E) (B:=B) (i:=i) i0 (by omega) ht
  simp only[checkN] at hr
  have hg:=e56b g W M B A E hc hM hA hE hBn hBl i i0 (by omega) ht _ rfl hln _ (fun ha=>ih (i+1) (by omega) (by omega) (hto ha) _ rfl) (B.getD i.toNat []).length 0 (by omega) (by omega) rfl r hr
  refine gets_vc spS (fun k=> [[1,2,7,8,9],[1,2,7,8,9,10]].getD k []) (fun _=> []) 400 (.fork (.hd 1) (.fork (.t .stop) (.fork .stop .stop))) (V:=vq55 g W M B A E i) hmG (fun G R=>by kernel_rfl) ?_
  unfold vq55
  try dsimp only
  simp (disch:=omega) only[oo,oop,ne_eq,Ty.dflt,reduceCtorEq]
  repeat' (first|with_reducible refine And.intro ?_ ?_|intro _)
  all_goals first|rfl|omega|assumption|trivial|(exfalso;simp_all;done)|(exfalso;omega)|skip
theorem d55R (g:Gr) (W:List (List Int)) (M:List Nat) (B:List (List (Int×Int))) (hM:Smalls M) (hBl:∀l∈B,l.length≤8796093022208):Con Tryd.prog 55 [] [.agg [.v (.int .i64 g.h),.v (.int .i64 g.w),.sl false false .bool g.B,.sl false false .bool g.R,.sl false false .bool g.L,slW W,slU M],slBd B] (.tup [.v (.int .i64 (checkR ⟨g,W,M⟩ B).1),.v (.int .i64 (checkR ⟨g,W,M⟩ B).2)]) [] []:=by
 refine con_vc (how:=[none,none]) (c:=r55) (K:=(KK r55)) spS (fun _=> [1,2,9,29,30,31]) (fun _=> []) 400 (.fork .stop (.fork .stop (.hd 0))) (V:=fun G R=>let yy0:=(Pr.mk g W (Nt (Mi M)));let yy1:=((Ty.int .i64).prod (Ty.int .i64));Con Tryd.prog 89 [] [D.agg [D.v (Value.int .i64 yy0.g.h),D.v (Value.int .i64 yy0.g.w),D.sl false false Ty.bool yy0.g.B,D.sl false false Ty.bool yy0.g.R,D.sl false false Ty.bool yy0.g.L,D.sl false false (Ty.int .i64).sl yy0.W,D.sl false false (Ty.int .u64) (Mi yy0.M)]] (D.v (Value.int .i64 (checkP yy0))) [] []∧Value.int .i64 g.h=Value.int .i64 yy0.g.h∧Value.int .i64 g.w=Value.int .i64 yy0.g.w∧g.B=yy0.g.B∧g.R=yy0.g.R∧g.L=yy0.g.L∧W=yy0.W∧Mi M=Mi yy0.M∧((checkP yy0 !=(0:Int))=true→R (D.tup [D.v (Value.int .i64 (0:Int)),D.v (Value.int .i64 (checkP yy0))],[],[]))∧((checkP yy0 !=(0:Int))=false→(decide ((↑B.length:Int)>(65000:Int))=true→R (D.tup [D.v (Value.int .i64 (0:Int)),D.v (Value.int .i64 (2:Int))],[],[]))∧(decide ((↑B.length:Int)>(65000:Int))=false→Con Tryd.prog 40 [] [D.agg [D.v (Value.int .i64 g.h),D.v (Value.int .i64 g.w),D.sl false false Ty.bool g.B,D.sl false false Ty.bool g.R,D.sl false false Ty.bool g.L]] (D.tup [D.own 0 0 (seatsF g).fst.length none,D.own 1 0 (seatsF g).snd.length none]) [] [Row.data 61 yy1 (seatsF g).fst,Row.data 61 yy1 (seatsF g).snd]∧Value.int .i64 g.h=Value.int .i64 g.h∧Value.int .i64 g.w=Value.int .i64 g.w∧g.B=g.B∧g.R=g.R∧g.L=g.L∧SameK (KK r55 0) (KK r55 0)∧G 0 (stOf 67 [1,2,9,29,30,31] [D.sl false false yy1.sl B,D.ptr 0 0 0,D.fn 90 [D.ptr 1 0 0,D.ptr 2 0 0],D.sl false false yy1.sl B,D.v (Value.int .i64 (↑B.length:Int)),D.v (Value.int .i64 (0:Int))] [Slot.live (Row.box 73 [D.v (Value.int .i64 g.h),D.v (Value.int .i64 g.w),D.sl false false Ty.bool g.B,D.sl false false Ty.bool g.R,D.sl false false Ty.bool g.L,D.sl false false (Ty.int .i64).sl W,D.sl false false (Ty.int .u64) (Mi M)]),Slot.live (Row.box 55 [D.own 3 0 (seatsF g).fst.length none]),Slot.live (Row.box 55 [D.own 4 0 (seatsF g).snd.length none]),Slot.live (Row.data 61 yy1 (seatsF g).fst),Slot.live (Row.data 61 yy1 (seatsF g).snd)])))) hmG Tryd.func55 (by kernel_rfl) (by kernel_rfl) (fun G R=>by kernel_rfl) ?_
 try dsimp only
 try dsimp only
 have cc:=d62 g W M
 have cs:=d77 g
 obtain⟨r,hr⟩:∃r,checkR ⟨g,W,M⟩ B=r:=⟨_,rfl⟩
 rw[hr]
 simp only[Nt_Mi]
 unfold checkR at hr
 by_cases hc:checkP ⟨g,W,M⟩=0
 ·rw[if_pos hc] at hr
  have w0:(checkP ⟨g,W,M⟩ !=0)=false:=by rw[hc];rfl
  rw[hc] at cc
  by_cases hb:(B.length:Int)>65000
  ·rw[if_pos hb] at hr
   subst hr
   have w1:decide ((B.length:Int)>65000)=true:=decide_eq_true hb
   simp only[w0,w1,hc]
   simp (disch:=omega) only[oo,oop,ne_eq,Ty.dflt,reduceCtorEq]
   repeat' (first|with_reducible refine And.intro ?_ ?_|intro _)
   all_goals first|rfl|omega|assumption|trivial|(exfalso;simp_all;done)|(exfalso;omega)|skip
  ·rw[if_neg hb] at hr
   have w1:decide ((B.length:Int)>65000)=false:=decide_eq_false hb
   have hs:=(seats_are (g:=g) (checkP_zero hc).1 (c:=0) (by omega)).2.2
   have h4:=(checkP_zero hc).2.2.2
   simp only at h4
   have hg:=e55 g W M B (seatsF g).1 (seatsF g).2 hc hM (by omega) (by omega) (by omega) hBl B.length 0 (by omega) (by omega) (fun l hl=>by simp at hl) r hr.symm
   simp only[w0,w1,hc]
   simp (disch:=omega) only[oo,oop,ne_eq,Ty.dflt,reduceCtorEq]
   repeat' (first|with_reducible refine And.intro ?_ ?_|intro _)
   all_goals first|rfl|omega|assumption|trivial|(exfalso;simp_all;done)|(exfalso;omega)|skip
 ·rw[if_neg hc] at hr
  subst hr
  have w0:(checkP ⟨g,W,M⟩ !=0)=true:=by rw[bne_iff_ne];exact hc
  simp only[w0]
  simp (disch:=omega) only[oo,oop,ne_eq,Ty.dflt,reduceCtorEq]
  repeat' (first|with_reducible refine And.intro ?_ ?_|intro _)
  all_goals first|rfl|omega|assumption|trivial|(exfalso;simp_all;done)|(exfalso;omega)|skip
theorem d56R (g:Gr) (W:List (List Int)) (M:List Nat) (B:List (List (Int×Int))) (hM:Smalls M) (hBl:∀l∈B,l.length≤8796093022208):Con Tryd.prog 56 [] [.agg [.v (.int .i64 g.h),.v (.int .i64 g.w),.sl false false .bool g.B,.sl false false .bool g.R,.sl false false .bool g.L,slW W,slU M],slBd B] (.tup [.v (.int .i64 (checkR ⟨g,W,M⟩ B).1),.v (.int .i64 (checkR ⟨g,W,M⟩ B).2)]) [] []:=by
 refine con_vc (how:=[none,none]) (c:=r56) (K:=(KK r56)) spS (fun k=> [[1,2,7,8,9],[1,2,7,8,9,10]].getD k []) (fun _=> []) 400 (.fork .stop (.fork .stop (.hd 0))) (V:=fun G R=>let yy0:=(Pr.mk g W (Nt (Mi M)));let yy1:=(Ty.int .i64);Con Tryd.prog 60 [] [D.agg [D.v (Value.int .i64 yy0.g.h),D.v (Value.int .i64 yy0.g.w),D.sl false false Ty.bool yy0.g.B,D.sl false false Ty.bool yy0.g.R,D.sl false false Ty.bool yy0.g.L,D.sl false false yy1.sl yy0.W,D.sl false false (Ty.int .u64) (Mi yy0.M)]] (D.v (Value.int .i64 (checkP yy0))) [] []∧Value.int .i64 g.h=Value.int .i64 yy0.g.h∧Value.int .i64 g.w=Value.int .i64 yy0.g.w∧g.B=yy0.g.B∧g.R=yy0.g.R∧g.L=yy0.g.L∧W=yy0.W∧Mi M=Mi yy0.M∧((checkP yy0 !=(0:Int))=true→R (D.tup [D.v (Value.int .i64 (0:Int)),D.v (Value.int .i64 (checkP yy0))],[],[]))∧((checkP yy0 !=(0:Int))=false→(decide ((↑B.length:Int)>(65000:Int))=true→R (D.tup [D.v (Value.int .i64 (0:Int)),D.v (Value.int .i64 (2:Int))],[],[]))∧(decide ((↑B.length:Int)>(65000:Int))=false→Con Tryd.prog 41 [] [D.agg [D.v (Value.int .i64 g.h),D.v (Value.int .i64 g.w),D.sl false false Ty.bool g.B,D.sl false false Ty.bool g.R,D.sl false false Ty.bool g.L]] (D.tup [D.own 0 0 (seatsF g).fst.length none,D.own 1 0 (seatsF g).snd.length none]) [] [Row.data 61 (yy1.prod yy1) (seatsF g).fst,Row.data 61 (yy1.prod yy1) (seatsF g).snd]∧Value.int .i64 g.h=Value.int .i64 g.h∧Value.int .i64 g.w=Value.int .i64 g.w∧g.B=g.B∧g.R=g.R∧g.L=g.L∧SameK (KK r56 0) (KK r56 0)∧G 0 (stOf 78 [1,2,7,8,9] [D.sl false false (yy1.prod yy1).sl B,D.ptr 0 0 0,D.own 1 0 (seatsF g).fst.length none,D.own 2 0 (seatsF g).snd.length none,D.v (Value.int .i64 (0:Int))] [Slot.live (Row.box 73 [D.v (Value.int .i64 g.h),D.v (Value.int .i64 g.w),D.sl false false Ty.bool g.B,D.sl false false Ty.bool g.R,D.sl false false Ty.bool g.L,D.sl false false yy1.sl W,D.sl false false (Ty.int .u64) (Mi M)]),Slot.live (Row.data 61 (yy1.prod yy1) (seatsF g).fst),Slot.live (Row.data 61 (yy1.prod yy1) (seatsF g).snd)])))) hmG Tryd.func56 (by kernel_rfl) (by kernel_rfl) (fun G R=>by kernel_rfl) ?_
 try dsimp only
 try dsimp only
 have cc:=d63 g W M
 have cs:=d41D g
 obtain⟨r,hr⟩:∃r,checkR ⟨g,W,M⟩ B=r:=⟨_,rfl⟩
 rw[hr]
 simp only[Nt_Mi]
 unfold checkR at hr
 by_cases hc:checkP ⟨g,W,M⟩=0
 ·rw[if_pos hc] at hr
  have w0:(checkP ⟨g,W,M⟩ !=0)=false:=by rw[hc];rfl
  rw[hc] at cc
  by_cases hb:(B.length:Int)>65000
  ·rw[if_pos hb] at hr
   subst hr
   have w1:decide ((B.length:Int)>65000)=true:=decide_eq_true hb
   simp only[w0,w1,hc]
   simp (disch:=omega) only[oo,oop,ne_eq,Ty.dflt,reduceCtorEq]
   repeat' (first|with_reducible refine And.intro ?_ ?_|intro _)
   all_goals first|rfl|omega|assumption|trivial|(exfalso;simp_all;done)|(exfalso;omega)|skip
  ·rw[if_neg hb] at hr
   have w1:decide ((B.length:Int)>65000)=false:=decide_eq_false hb
   have hs:=(seats_are (g:=g) (checkP_zero hc).1 (c:=0) (by omega)).2.2
   have h4:=(checkP_zero hc).2.2.2
   simp only at h4
   have hg:=e56 g W M B (seatsF g).1 (seatsF g).2 hc hM (by omega) (by omega) (by omega) hBl B.length 0 (by omega) (by omega) (fun l hl=>by simp at hl) r hr.symm
   simp only[w0,w1,hc]
   simp (disch:=omega) only[oo,oop,ne_eq,Ty.dflt,reduceCtorEq]
   repeat' (first|with_reducible refine And.intro ?_ ?_|intro _)
   all_goals first|rfl|omega|assumption|trivial|(exfalso;simp_all;done)|(exfalso;omega)|skip
 ·rw[if_neg hc] at hr
  subst hr
  have w0:(checkP ⟨g,W,M⟩ !=0)=true:=by rw[bne_iff_ne];exact hc
  simp only[w0]
  simp (disch:=omega) only[oo,oop,ne_eq,Ty.dflt,reduceCtorEq]
  repeat' (first|with_reducible refine And.intro ?_ ?_|intro _)
  all_goals first|rfl|omega|assumption|trivial|(exfalso;simp_all;done)|(exfalso;omega)|skip
end Go.Proofs.YtnakmganodkliaaDoorAm
set_option maxRecDepth 100000
namespace Go.Proofs.YtnakmganodkliaaDoorAm
open Go
abbrev BT:Ty:= .sl SeT
def spT5:Sp:=fun f args rd=>match f,args with
 |54,[b]=>match slC rd BT [b] with
  |some B=>some {f:=54,args:=[slBd B],val:= .own 0 0 B.length none,allocs:=[.data 90 BT B],lent:=refsDs [b]}
  |none=>none
 |58,[a,b]=>match slC rd BT [a],slC rd BT [b] with
  |some A,some B=>some {f:=58,args:=[slBd A,slBd B],val:= .v (.bool (decide (A=B))),lent:=refsDs [a,b]}
  |_,_=>none
 |55,[.agg [.v (.int _ h),.v (.int _ w),b,r,l,ws,ms],bd]=>withP rd h w b r l ws ms fun p ls=>match slC rd BT [bd] with
  |some B=>some {f:=55,args:=[p.d,slBd B],val:= .tup [.v (.int .i64 (checkR p B).1),.v (.int .i64 (checkR p B).2)],lent:=ls++refsDs [bd]}
  |none=>none
 |56,[.agg [.v (.int _ h),.v (.int _ w),b,r,l,ws,ms],bd]=>withP rd h w b r l ws ms fun p ls=>match slC rd BT [bd] with
  |some B=>some {f:=56,args:=[p.d,slBd B],val:= .tup [.v (.int .i64 (checkR p B).1),.v (.int .i64 (checkR p B).2)],lent:=ls++refsDs [bd]}
  |none=>none
 |52,[]=>some {f:=52,args:=[],val:= .v (.bool true)}
 |f,args=>spS f args rd
noncomputable def r54:Code:=(Tryd.f54.body).getD .skip
noncomputable def r58:Code:=(Tryd.f58.body).getD .skip
noncomputable def r12:Code:=(Tryd.f12.body).getD .skip
noncomputable def r52:Code:=(Tryd.f52.body).getD .skip
end Go.Proofs.YtnakmganodkliaaDoorAm
