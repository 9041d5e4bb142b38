/- Refutations: Check of any problem and any nogoods, and what it leans on. (part 10) -/
import Derived.Test.YtnakmganodkliaaDoorPri
set_option linter.unusedVariables false
set_option linter.unusedSimpArgs false
set_option maxRecDepth 100000
namespace Go.Proofs.YtnakmganodkliaaDoorAm
open Go
theorem room90 {n:Nat} (h:n≤5864062014805):roomy Tryd.prog 90 n:=by
 unfold roomy
 rw[show Tryd.prog.bytesOf 90=24 by kernel_rfl]
 omega
def vq56 (A:List (List (Int×Int))) (B:List (List (Int×Int))) (i:Int) (a:List (Int×Int)) (k:Int) (G:Nat→St→Prop) (R:D×List (Option Row)×List Row→Prop):Prop:=let yy0:=((Ty.int .i64).prod (Ty.int .i64));let yy1:=(!((List.getD (A.getD i.toNat yy0.sl.dflt) k.toNat yy0.dflt).fst==(List.getD (B.getD i.toNat yy0.sl.dflt) k.toNat yy0.dflt).fst&&((List.getD (A.getD i.toNat yy0.sl.dflt) k.toNat yy0.dflt).snd==(List.getD (B.getD i.toNat yy0.sl.dflt) k.toNat yy0.dflt).snd&&true)));(decide (k< (↑a.length:Int))=true→(0:Int)≤i∧i< (↑A.length:Int)∧(0:Int)≤k∧k< (↑(List.length (A.getD i.toNat yy0.sl.dflt)):Int)∧(0:Int)≤i∧i< (↑B.length:Int)∧(0:Int)≤k∧k< (↑(List.length (B.getD i.toNat yy0.sl.dflt)):Int)∧(yy1=true→R (D.v (Value.bool false),[],[]))∧(yy1=false→SameK (KK r58 1) (KK r58 1)∧G 1 (stOf 53 [0,1,5,13,14,32,33] [D.sl false false yy0.sl A,D.sl false false yy0.sl B,D.v (Value.int .i64 i),D.v (Value.int .i64 (↑A.length:Int)),D.v (Value.int .i64 i),D.v (Value.int .i64 (↑a.length:Int)),D.v (Value.int .i64 (IntKind.i64.wrap (k+(1:Int))))] [])))∧(decide (k< (↑a.length:Int))=false→SameK (KK r58 0) (KK r58 0)∧G 0 (stOf 53 [0,1,13,14] [D.sl false false yy0.sl A,D.sl false false yy0.sl B,D.v (Value.int .i64 (↑A.length:Int)),D.v (Value.int .i64 (IntKind.i64.wrap (i+(1:Int))))] []))
theorem e58b (A B:List (List (Int×Int))) (i:Int) (a b:List (Int×Int)) (i0:0≤i) (i1:i<A.length) (i2:i<B.length) (hii:IntKind.i64.wrap (i+1)=i+1) (ha:A.getD i.toNat []=a) (hb:B.getD i.toNat []=b) (hl:a.length=b.length) (hal:a.length≤8796093022208) (rest:Bool) (hx:GetsK Tryd.prog Tryd.f58.results.toList [none] (KK r58) 0 (.v (.bool rest),[],[]) 0 (stOf 53 [0,1,13,14] [slBd A,slBd B,.v (.int .i64 A.length),.v (.int .i64 (i+1))] [])) (z:Nat):∀(k:Int),0≤k→k+z=a.length→∀r,r=(decide (a.drop k.toNat=b.drop k.toNat)&&rest)→GetsK Tryd.prog Tryd.f58.results.toList [none] (KK r58) 0 (.v (.bool r),[],[]) 1 (stOf 53 [0,1,5,13,14,32,33] [slBd A,slBd B,.v (.int .i64 i),.v (.int .i64 A.length),.v (.int .i64 i),.v (.int .i64 a.length),.v (.int .i64 k)] []):=by
 induction z with
 |zero=>
  intro k k0 hk r hr
  rw[List.drop_eq_nil_of_le (by omega),List.drop_eq_nil_of_le (by omega),decide_eq_true rfl,Bool.true_and] at hr
  rw[hr]
  refine gets_vc spT5 (fun k=> [[0,1,13,14],[0,1,5,13,14,32,33]].getD k []) (fun _=> []) 400 (.fork (.fork .stop (.hd 1)) (.hd 0)) (V:=vq56 A B i a k) hmG (fun G R=>by kernel_rfl) ?_
  unfold vq56
  try dsimp only
  simp only[Ty.dflt,hii,ha,hb]
  simp (disch:=omega) only[oo,oop,ne_eq,Ty.dflt,reduceCtorEq]
  repeat' (first|with_reducible refine And.intro ?_ ?_|intro _)
  all_goals first|rfl|omega|assumption|trivial|exact room92 (by omega)|exact room90 (by omega)|(exfalso;simp_all;done)|(exfalso;omega)|skip
 |succ z ih=>
  intro k k0 hk r hr
  rw[drop_at (xs:=a) (i:=k) (0,0) k0 (by omega),drop_at (xs:=b) (i:=k) (0,0) k0 (by omega)] at hr
  have hk1:IntKind.i64.wrap (k+1)=k+1:=wrG (by omega) (by omega)
  have h1:=ih (k+1) (by omega) (by omega) _ rfl
  obtain⟨u,hu⟩:∃u,a.getD k.toNat (0,0)=u:=⟨_,rfl⟩
  obtain⟨v,hv⟩:∃v,b.getD k.toNat (0,0)=v:=⟨_,rfl⟩
  rw[hu,hv] at hr
  refine gets_vc spT5 (fun k=> [[0,1,13,14],[0,1,5,13,14,32,33]].getD k []) (fun _=> []) 400 (.fork (.fork .stop (.hd 1)) (.hd 0)) (V:=vq56 A B i a k) hmG (fun G R=>by kernel_rfl) ?_
  unfold vq56
  try dsimp only
  simp only[Ty.dflt,hk1,ha,hb,hu,hv]
  have e:(u.1==v.1&&(u.2==v.2&&true))=(u==v):=by
   rw[Bool.and_true]
   rfl
  rw[e]
  by_cases h:u=v
  ·have hr:r=(decide (a.drop (k+1).toNat=b.drop (k+1).toNat)&&rest):=by
    rw[hr]
    simp only[List.cons.injEq,h,true_and]
   rw[←hr] at h1
   have e1:(u==v)=true:=by rw[h];simp
   simp only[e1,Bool.not_true]
   simp (disch:=omega) only[oo,oop,ne_eq,Ty.dflt,reduceCtorEq]
   repeat' (first|with_reducible refine And.intro ?_ ?_|intro _)
   all_goals first|rfl|omega|assumption|trivial|exact room92 (by omega)|exact room90 (by omega)|(exfalso;simp_all;done)|(exfalso;omega)|skip
  ·have hr:r=false:=by
    rw[hr,decide_eq_false (fun e=>h (by rw[List.cons.injEq] at e;exact e.1))]
    rfl
   have e1:(u==v)=false:=by rw[beq_eq_false_iff_ne];exact h
   rw[hr]
   simp only[e1,Bool.not_false]
   simp (disch:=omega) only[oo,oop,ne_eq,Ty.dflt,reduceCtorEq]
   repeat' (first|with_reducible refine And.intro ?_ ?_|intro _)
   all_goals first|rfl|omega|assumption|trivial|exact room92 (by omega)|exact room90 (by omega)|(exfalso;simp_all;done)|(exfalso;omega)|skip
def vq57 (A:List (List (Int×Int))) (B:List (List (Int×Int))) (i:Int) (G:Nat→St→Prop) (R:D×List (Option Row)×List Row→Prop):Prop:=let yy0:=((Ty.int .i64).prod (Ty.int .i64));let yy1:=((↑(List.length (A.getD i.toNat yy0.sl.dflt)):Int) !=(↑(List.length (B.getD i.toNat yy0.sl.dflt)):Int));(decide (i< (↑A.length:Int))=true→(0:Int)≤i∧i< (↑A.length:Int)∧(0:Int)≤i∧i< (↑B.length:Int)∧(yy1=true→R (D.v (Value.bool false),[],[]))∧(yy1=false→(0:Int)≤i∧i< (↑A.length:Int)∧SameK (KK r58 1) (KK r58 1)∧G 1 (stOf 53 [0,1,5,13,14,32,33] [D.sl false false yy0.sl A,D.sl false false yy0.sl B,D.v (Value.int .i64 i),D.v (Value.int .i64 (↑A.length:Int)),D.v (Value.int .i64 i),D.v (Value.int .i64 (↑(List.length (A.getD i.toNat yy0.sl.dflt)):Int)),D.v (Value.int .i64 (0:Int))] [])))∧(decide (i< (↑A.length:Int))=false→R (D.v (Value.bool true),[],[]))
theorem e58R (A B:List (List (Int×Int))) (hl:A.length=B.length) (hAl:A.length≤5864062014805) (hw:∀s∈A,s.length≤8796093022208) (z:Nat):∀(i:Int),0≤i→i+z=A.length→∀r,r=decide (A.drop i.toNat=B.drop i.toNat)→GetsK Tryd.prog Tryd.f58.results.toList [none] (KK r58) 0 (.v (.bool r),[],[]) 0 (stOf 53 [0,1,13,14] [slBd A,slBd B,.v (.int .i64 A.length),.v (.int .i64 i)] []):=by
 induction z with
 |zero=>
  intro i i0 hi r hr
  rw[List.drop_eq_nil_of_le (by omega),List.drop_eq_nil_of_le (by omega)] at hr
  have hr:r=true:=by rw[hr];rfl
  rw[hr]
  refine gets_vc spT5 (fun k=> [[0,1,13,14],[0,1,5,13,14,32,33]].getD k []) (fun _=> []) 400 (.fork (.fork .stop (.hd 1)) .stop) (V:=vq57 A B i) hmG (fun G R=>by kernel_rfl) ?_
  unfold vq57
  try dsimp only
  simp (disch:=omega) only[oo,oop,ne_eq,Ty.dflt,reduceCtorEq]
  repeat' (first|with_reducible refine And.intro ?_ ?_|intro _)
  all_goals first|rfl|omega|assumption|trivial|exact room92 (by omega)|exact room90 (by omega)|(exfalso;simp_all;done)|(exfalso;omega)|skip
 |succ z ih=>
  intro i i0 hi r hr
  have hsw:=hw _ (getD_in (d:=[]) (k:=i.toNat) (l:=A) (by omega))
  rw[drop_at (xs:=A) (i:=i) [] i0 (by omega),drop_at (xs:=B) (i:=i) [] i0 (by omega)] at hr
  obtain⟨a,ha⟩:∃a,A.getD i.toNat []=a:=⟨_,rfl⟩
  obtain⟨b,hb⟩:∃b,B.getD i.toNat []=b:=⟨_,rfl⟩
  rw[ha] at hsw
  rw[ha,hb] at hr
  have h1:=ih (i+1) (by omega) (by omega) _ rfl
  refine gets_vc spT5 (fun k=> [[0,1,13,14],[0,1,5,13,14,32,33]].getD k []) (fun _=> []) 400 (.fork (.fork .stop (.hd 1)) .stop) (V:=vq57 A B i) hmG (fun G R=>by kernel_rfl) ?_
  unfold vq57
  try dsimp only
  simp only[Ty.dflt,ha,hb]
  by_cases hd:a.length=b.length
  ·have h2:=e58b A B i a b i0 (by omega) (by omega) (wrG (by omega) (by omega)) ha hb hd hsw _ h1 a.length 0 (by omega) (by omega) _ rfl
   have hr:r=(decide (a.drop (0:Int).toNat=b.drop (0:Int).toNat)&&decide (A.drop (i+1).toNat=B.drop (i+1).toNat)):=by
    rw[hr]
    simp only[List.cons.injEq,show(0:Int).toNat=0 from rfl,List.drop_zero,Bool.decide_and]
   rw[←hr] at h2
   have e3:((a.length:Int) !=(b.length:Int))=false:=by rw[hd];simp
   simp only[e3]
   simp (disch:=omega) only[oo,oop,ne_eq,Ty.dflt,reduceCtorEq]
   repeat' (first|with_reducible refine And.intro ?_ ?_|intro _)
   all_goals first|rfl|omega|assumption|trivial|exact room92 (by omega)|exact room90 (by omega)|(exfalso;simp_all;done)|(exfalso;omega)|skip
  ·have hr:r=false:=by
    rw[hr]
    refine decide_eq_false fun e=>hd ?_
    rw[List.cons.injEq] at e
    rw[e.1]
   rw[hr]
   have e3:((a.length:Int) !=(b.length:Int))=true:=by rw[bne_iff_ne];omega
   simp only[e3]
   simp (disch:=omega) only[oo,oop,ne_eq,Ty.dflt,reduceCtorEq]
   repeat' (first|with_reducible refine And.intro ?_ ?_|intro _)
   all_goals first|rfl|omega|assumption|trivial|exact room92 (by omega)|exact room90 (by omega)|(exfalso;simp_all;done)|(exfalso;omega)|skip
theorem e54 (B:List (List (Int×Int))) (hB:B.length≤5864062014805) (hw:∀s∈B,s.length≤8796093022208) (z:Nat):∀(i:Int) (L:List (List (Int×Int))),0≤i→i+z=B.length→L=B.take i.toNat→GetsK Tryd.prog Tryd.f54.results.toList [none] (KK r54) 0 (.own 0 0 B.length none,[],[.data 90 BT B]) 0 (stOf 20 [3,6,7,8] [.own 0 0 L.length none,slBd B,.v (.int .i64 B.length),.v (.int .i64 i)] [.live (.data 90 BT L)]):=by
 induction z with
 |zero=>
  intro i L i0 hi hL
  rw[List.take_of_length_le (by omega)] at hL
  subst hL
  refine gets_vc spT5 (fun _=> [3,6,7,8]) (fun k=>if k=0 then [⟨3,90,BT⟩] else [⟨2,90,BT⟩]) 400 (.fork (.hd 0) .stop) (V:=fun G R=>let yy0:=((Ty.int .i64).prod (Ty.int .i64));(decide (i< (↑L.length:Int))=true→(0:Int)≤i∧i< (↑L.length:Int)∧roomy Tryd.prog 92 (0+List.length (L.getD i.toNat yy0.sl.dflt))∧roomy Tryd.prog 90 (L.length+1)∧SameK (KK r54 0) (KK r54 0)∧G 0 (stOf 20 [3,6,7,8] [D.own 0 0 (L.length+1) none,D.sl false false yy0.sl L,D.v (Value.int .i64 (↑L.length:Int)),D.v (Value.int .i64 (IntKind.i64.wrap (i+(1:Int))))] [Slot.live (Row.data 90 yy0.sl (List.take L.length (List.drop 0 L)++List.take 1 (List.drop 0 [List.take (0+List.length (L.getD i.toNat yy0.sl.dflt)) (List.drop 0 (List.take 0 (List.drop 0 [])++L.getD i.toNat yy0.sl.dflt))])))]))∧(decide (i< (↑L.length:Int))=false→R (D.own 0 0 L.length none,[],[Row.data 90 yy0.sl L]))) hmG (fun G R=>by kernel_rfl) ?_
  try dsimp only
  simp (disch:=omega) only[oo,oop,ne_eq,Ty.dflt,reduceCtorEq]
  repeat' (first|with_reducible refine And.intro ?_ ?_|intro _)
  all_goals first|rfl|omega|assumption|trivial|exact room92 (by omega)|exact room90 (by omega)|(exfalso;simp_all;done)|(exfalso;omega)|skip
 |succ z ih=>
  intro i L i0 hi hL
  have hk1:IntKind.i64.wrap (i+1)=i+1:=wrG (by omega) (by omega)
  have hsw:=hw _ (getD_in (d:=[]) (k:=i.toNat) (l:=B) (by omega))
  have ht:=take_succ_at ([]:List (Int×Int)) B i0 (by omega)
  obtain⟨w,hww⟩:∃w,B.getD i.toNat []=w:=⟨_,rfl⟩
  rw[hww] at ht hsw
  have hLl:L.length=i.toNat:=by rw[hL,List.length_take];omega
  have hx:=ih (i+1) (L++[w]) (by omega) (by omega) (by rw[ht,hL])
  rw[List.length_append,List.length_cons,List.length_nil] at hx
  refine gets_vc spT5 (fun _=> [3,6,7,8]) (fun k=>if k=0 then [⟨3,90,BT⟩] else [⟨2,90,BT⟩]) 400 (.fork (.hd 0) .stop) (V:=fun G R=>let yy0:=((Ty.int .i64).prod (Ty.int .i64));(decide (i< (↑B.length:Int))=true→(0:Int)≤i∧i< (↑B.length:Int)∧roomy Tryd.prog 92 (0+List.length (B.getD i.toNat yy0.sl.dflt))∧roomy Tryd.prog 90 (L.length+1)∧SameK (KK r54 0) (KK r54 0)∧G 0 (stOf 20 [3,6,7,8] [D.own 0 0 (L.length+1) none,D.sl false false yy0.sl B,D.v (Value.int .i64 (↑B.length:Int)),D.v (Value.int .i64 (IntKind.i64.wrap (i+(1:Int))))] [Slot.live (Row.data 90 yy0.sl (List.take L.length (List.drop 0 L)++List.take 1 (List.drop 0 [List.take (0+List.length (B.getD i.toNat yy0.sl.dflt)) (List.drop 0 (List.take 0 (List.drop 0 [])++B.getD i.toNat yy0.sl.dflt))])))]))∧(decide (i< (↑B.length:Int))=false→R (D.own 0 0 L.length none,[],[Row.data 90 yy0.sl L]))) hmG (fun G R=>by kernel_rfl) ?_
  try dsimp only
  simp only[Ty.dflt,hk1,hww,take_len,List.drop_zero,List.take_length,Mi_getD,Mi_len,Nt_Mi,Int.toNat_natCast,Mi_set,Nat.zero_add,Nat.sub_zero,List.length_set,take_one,takeSn,List.take_zero,List.nil_append,List.length_append,List.length_cons,List.length_nil,Mi_take]
  simp (disch:=omega) only[oo,oop,ne_eq,Ty.dflt,reduceCtorEq]
  repeat' (first|with_reducible refine And.intro ?_ ?_|intro _)
  all_goals first|rfl|omega|assumption|trivial|exact room92 (by omega)|exact room90 (by omega)|(exfalso;simp_all;done)|(exfalso;omega)|skip
theorem d58R (A B:List (List (Int×Int))) (hAl:A.length≤5864062014805) (hw:∀s∈A,s.length≤8796093022208):Con Tryd.prog 58 [] [slBd A,slBd B] (.v (.bool (decide (A=B)))) [] []:=by
 refine con_vc (how:=[none]) (c:=r58) (K:=(KK r58)) spT5 (fun k=> [[0,1,13,14],[0,1,5,13,14,32,33]].getD k []) (fun _=> []) 400 (.fork .stop (.hd 0)) (V:=fun G R=>(((↑A.length:Int) !=(↑B.length:Int))=true→R (D.v (Value.bool false),[],[]))∧(((↑A.length:Int) !=(↑B.length:Int))=false→SameK (KK r58 0) (KK r58 0)∧G 0 (stOf 53 [0,1,13,14] [D.sl false false ((Ty.int .i64).prod (Ty.int .i64)).sl A,D.sl false false ((Ty.int .i64).prod (Ty.int .i64)).sl B,D.v (Value.int .i64 (↑A.length:Int)),D.v (Value.int .i64 (0:Int))] []))) hmG Tryd.func58 (by kernel_rfl) (by kernel_rfl) (fun G R=>by kernel_rfl) ?_
 try dsimp only
 by_cases hl:A.length=B.length
 ·have hx:=e58R A B hl hAl hw A.length 0 (by omega) (by omega) _ rfl
  simp only[show(0:Int).toNat=0 by rfl,List.drop_zero] at hx
  have hll:((A.length:Int) !=(B.length:Int))=false:=by rw[hl];simp
  simp only[hll]
  simp (disch:=omega) only[oo,oop,ne_eq,Ty.dflt,reduceCtorEq]
  repeat' (first|with_reducible refine And.intro ?_ ?_|intro _)
  all_goals first|rfl|omega|assumption|trivial|exact room92 (by omega)|exact room90 (by omega)|(exfalso;simp_all;done)|(exfalso;omega)|skip
 ·have e:decide (A=B)=false:=decide_eq_false (fun q=>hl (by rw[q]))
  have hll:((A.length:Int) !=(B.length:Int))=true:=by rw[bne_iff_ne];omega
  rw[e]
  simp only[hll]
  simp (disch:=omega) only[oo,oop,ne_eq,Ty.dflt,reduceCtorEq]
  repeat' (first|with_reducible refine And.intro ?_ ?_|intro _)
  all_goals first|rfl|omega|assumption|trivial|exact room92 (by omega)|exact room90 (by omega)|(exfalso;simp_all;done)|(exfalso;omega)|skip
theorem d54R (B:List (List (Int×Int))) (hB:B.length≤5864062014805) (hw:∀s∈B,s.length≤8796093022208):Con Tryd.prog 54 [] [slBd B] (.own 0 0 B.length none) [] [.data 90 BT B]:=by
 refine con_vc (how:=[none]) (c:=r54) (K:=(KK r54)) spT5 (fun _=> [3,6,7,8]) (fun k=>if k=0 then [⟨3,90,BT⟩] else [⟨2,90,BT⟩]) 400 (.hd 0) (V:=fun G R=>SameK (KK r54 0) (KK r54 0)∧G 0 (stOf 20 [3,6,7,8] [D.own 0 0 0 none,D.sl false false ((Ty.int .i64).prod (Ty.int .i64)).sl B,D.v (Value.int .i64 (↑B.length:Int)),D.v (Value.int .i64 (0:Int))] [Slot.live (Row.data 90 ((Ty.int .i64).prod (Ty.int .i64)).sl [])])) hmG Tryd.func54 (by kernel_rfl) (by kernel_rfl) (fun G R=>by kernel_rfl) ?_
 try dsimp only
 have hx:=e54 B hB hw B.length 0 [] (by omega) (by omega) rfl
 simp (disch:=omega) only[oo,oop,ne_eq,Ty.dflt,reduceCtorEq]
 repeat' (first|with_reducible refine And.intro ?_ ?_|intro _)
 all_goals first|rfl|omega|assumption|trivial|exact room92 (by omega)|exact room90 (by omega)|(exfalso;simp_all;done)|(exfalso;omega)|skip
theorem d12R (g:Gr) (W:List (List Int)) (M:List Nat) (B:List (List (Int×Int))) (c52:Con Tryd.prog 52 [] [] (.v (.bool true)) [] []) (F:(Pr.mk g W M).fits) (hB:B.length≤5864062014805) (hw:∀s∈B,s.length≤8796093022208):Con Tryd.prog 12 [] [.agg [.v (.int .i64 g.h),.v (.int .i64 g.w),.sl false false .bool g.B,.sl false false .bool g.R,.sl false false .bool g.L,slW W,slU M],slBd B] (.v (.bool true)) [] []:=by
 refine con_vc (how:=[none]) (c:=r12) (K:=(KK r12)) spT5 (fun _=> []) (fun _=> []) 400 (.fork .stop (.fork (.fork .stop (.fork (.fork (.fork .stop .stop) (.f .stop)) (.f (.f .stop)))) (.f (.fork (.fork (.fork .stop .stop) (.f .stop)) (.f (.f .stop)))))) (V:=fun G R=>let yy0:=(Pr.mk (Pr.mk g W (Nt (Mi M))).g (List.take (Pr.mk g W (Nt (Mi M))).W.length (List.drop 0 (Pr.mk g W (Nt (Mi M))).W)) (Nt (List.take (Pr.mk g W (Nt (Mi M))).M.length (List.drop 0 (Mi (Pr.mk g W (Nt (Mi M))).M)))));let yy1:=(Pr.mk g W (Nt (Mi M)));let yy2:=(Ty.int .i64);let yy3:=(checkR yy0 (List.take B.length (List.drop 0 B)));let yy4:=(D.agg [D.v (Value.int .i64 yy1.g.h),D.v (Value.int .i64 yy1.g.w),D.own 0 0 yy1.g.B.length none,D.own 1 0 yy1.g.R.length none,D.own 2 0 yy1.g.L.length none,D.own 3 0 yy1.W.length none,D.own 4 0 yy1.M.length none]);let yy5:=(yy0.g=yy1.g∧yy0.M=yy1.M∧yy0.W=yy1.W);let yy6:=(Ty.int .u64);let yy7:=(List.drop 0 B);let yy8:=(Value.bool (decide (List.take B.length yy7=B)));let yy9:=(Value.int .i64 yy1.g.h);Con Tryd.prog 52 [] [] (D.v (Value.bool true)) [] []∧((!true)=true→R (D.v (Value.bool false),[],[]))∧((!true)=false→(decide ((↑B.length:Int)>(60:Int))=true→(decide ((↑B.length:Int)≤(65000:Int))=true→R (D.v (Value.bool true),[],[]))∧(decide ((↑B.length:Int)≤(65000:Int))=false→Con Tryd.prog 53 [] [D.agg [D.v yy9,D.v (Value.int .i64 yy1.g.w),D.sl false false Ty.bool yy1.g.B,D.sl false false Ty.bool yy1.g.R,D.sl false false Ty.bool yy1.g.L,D.sl false false yy2.sl yy1.W,D.sl false false yy6 (Mi yy1.M)]] yy4 [] [Row.data 4 Ty.bool yy1.g.B,Row.data 4 Ty.bool yy1.g.R,Row.data 4 Ty.bool yy1.g.L,Row.data 27 yy2.sl yy1.W,Row.data 22 yy6 (Mi yy1.M)]∧Value.int .i64 g.h=Value.int .i64 yy1.g.h∧Value.int .i64 g.w=Value.int .i64 yy1.g.w∧g.B=yy1.g.B∧g.R=yy1.g.R∧g.L=yy1.g.L∧W=yy1.W∧Mi M=Mi yy1.M∧Con Tryd.prog 54 [] [D.sl false false (yy2.prod yy2).sl B] (D.own 0 0 B.length none) [] [Row.data 90 (yy2.prod yy2).sl B]∧B=B∧Con Tryd.prog 55 [] [D.agg [D.v (Value.int .i64 yy0.g.h),D.v (Value.int .i64 yy0.g.w),D.sl false false Ty.bool yy0.g.B,D.sl false false Ty.bool yy0.g.R,D.sl false false Ty.bool yy0.g.L,D.sl false false yy2.sl yy0.W,D.sl false false yy6 (Mi yy0.M)],D.sl false false (yy2.prod yy2).sl (List.take B.length yy7)] (D.tup [D.v (Value.int .i64 yy3.fst),D.v (Value.int .i64 yy3.snd)]) [] []∧Value.int .i64 yy1.g.h=Value.int .i64 yy0.g.h∧Value.int .i64 yy1.g.w=Value.int .i64 yy0.g.w∧List.take yy1.g.B.length (List.drop 0 yy1.g.B)=yy0.g.B∧List.take yy1.g.R.length (List.drop 0 yy1.g.R)=yy0.g.R∧List.take yy1.g.L.length (List.drop 0 yy1.g.L)=yy0.g.L∧List.take yy1.W.length (List.drop 0 yy1.W)=yy0.W∧List.take yy1.M.length (List.drop 0 (Mi yy1.M))=Mi yy0.M∧List.take B.length yy7=List.take B.length yy7∧Con Tryd.prog 56 [] [D.agg [D.v yy9,D.v (Value.int .i64 yy1.g.w),D.sl false false Ty.bool yy1.g.B,D.sl false false Ty.bool yy1.g.R,D.sl false false Ty.bool yy1.g.L,D.sl false false yy2.sl yy1.W,D.sl false false yy6 (Mi yy1.M)],D.sl false false (yy2.prod yy2).sl B] (D.tup [D.v (Value.int .i64 (checkR yy1 B).fst),D.v (Value.int .i64 (checkR yy1 B).snd)]) [] []∧Value.int .i64 g.h=Value.int .i64 yy1.g.h∧Value.int .i64 g.w=Value.int .i64 yy1.g.w∧g.B=yy1.g.B∧g.R=yy1.g.R∧g.L=yy1.g.L∧W=yy1.W∧Mi M=Mi yy1.M∧B=B∧((yy3.fst==(checkR yy1 B).fst)=true→((yy3.snd==(checkR yy1 B).snd)=true→Con Tryd.prog 57 [] [D.agg [D.v (Value.int .i64 yy0.g.h),D.v (Value.int .i64 yy0.g.w),D.sl false false Ty.bool yy0.g.B,D.sl false false Ty.bool yy0.g.R,D.sl false false Ty.bool yy0.g.L,D.sl false false yy2.sl yy0.W,D.sl false false yy6 (Mi yy0.M)],D.agg [D.v yy9,D.v (Value.int .i64 yy1.g.w),D.sl false false Ty.bool yy1.g.B,D.sl false false Ty.bool yy1.g.R,D.sl false false Ty.bool yy1.g.L,D.sl false false yy2.sl yy1.W,D.sl false false yy6 (Mi yy1.M)]] (D.v (Value.bool (decide yy5))) [] []∧Value.int .i64 yy1.g.h=Value.int .i64 yy0.g.h∧Value.int .i64 yy1.g.w=Value.int .i64 yy0.g.w∧List.take yy1.g.B.length (List.drop 0 yy1.g.B)=yy0.g.B∧List.take yy1.g.R.length (List.drop 0 yy1.g.R)=yy0.g.R∧List.take yy1.g.L.length (List.drop 0 yy1.g.L)=yy0.g.L∧List.take yy1.W.length (List.drop 0 yy1.W)=yy0.W∧List.take yy1.M.length (List.drop 0 (Mi yy1.M))=Mi yy0.M∧Value.int .i64 g.h=Value.int .i64 yy1.g.h∧Value.int .i64 g.w=Value.int .i64 yy1.g.w∧g.B=yy1.g.B∧g.R=yy1.g.R∧g.L=yy1.g.L∧W=yy1.W∧Mi M=Mi yy1.M∧(decide yy5=true→Con Tryd.prog 58 [] [D.sl false false (yy2.prod yy2).sl (List.take B.length yy7),D.sl false false (yy2.prod yy2).sl B] (D.v yy8) [] []∧List.take B.length yy7=List.take B.length yy7∧B=B∧R (D.v yy8,[],[]))∧(decide yy5=false→R (D.v (Value.bool false),[],[])))∧((yy3.snd==(checkR yy1 B).snd)=false→false=false∧R (D.v (Value.bool false),[],[])))∧((yy3.fst==(checkR yy1 B).fst)=false→false=false∧false=false∧R (D.v (Value.bool false),[],[]))))∧(decide ((↑B.length:Int)>(60:Int))=false→false=false∧Con Tryd.prog 53 [] [D.agg [D.v yy9,D.v (Value.int .i64 yy1.g.w),D.sl false false Ty.bool yy1.g.B,D.sl false false Ty.bool yy1.g.R,D.sl false false Ty.bool yy1.g.L,D.sl false false yy2.sl yy1.W,D.sl false false yy6 (Mi yy1.M)]] yy4 [] [Row.data 4 Ty.bool yy1.g.B,Row.data 4 Ty.bool yy1.g.R,Row.data 4 Ty.bool yy1.g.L,Row.data 27 yy2.sl yy1.W,Row.data 22 yy6 (Mi yy1.M)]∧Value.int .i64 g.h=Value.int .i64 yy1.g.h∧Value.int .i64 g.w=Value.int .i64 yy1.g.w∧g.B=yy1.g.B∧g.R=yy1.g.R∧g.L=yy1.g.L∧W=yy1.W∧Mi M=Mi yy1.M∧Con Tryd.prog 54 [] [D.sl false false (yy2.prod yy2).sl B] (D.own 0 0 B.length none) [] [Row.data 90 (yy2.prod yy2).sl B]∧B=B∧Con Tryd.prog 55 [] [D.agg [D.v (Value.int .i64 yy0.g.h),D.v (Value.int .i64 yy0.g.w),D.sl false false Ty.bool yy0.g.B,D.sl false false Ty.bool yy0.g.R,D.sl false false Ty.bool yy0.g.L,D.sl false false yy2.sl yy0.W,D.sl false false yy6 (Mi yy0.M)],D.sl false false (yy2.prod yy2).sl (List.take B.length yy7)] (D.tup [D.v (Value.int .i64 yy3.fst),D.v (Value.int .i64 yy3.snd)]) [] []∧Value.int .i64 yy1.g.h=Value.int .i64 yy0.g.h∧Value.int .i64 yy1.g.w=Value.int .i64 yy0.g.w∧List.take yy1.g.B.length (List.drop 0 yy1.g.B)=yy0.g.B∧List.take yy1.g.R.length (List.drop 0 yy1.g.R)=yy0.g.R∧List.take yy1.g.L.length (List.drop 0 yy1.g.L)=yy0.g.L∧List.take yy1.W.length (List.drop 0 yy1.W)=yy0.W∧List.take yy1.M.length (List.drop 0 (Mi yy1.M))=Mi yy0.M∧List.take B.length yy7=List.take B.length yy7∧Con Tryd.prog 56 [] [D.agg [D.v yy9,D.v (Value.int .i64 yy1.g.w),D.sl false false Ty.bool yy1.g.B,D.sl false false Ty.bool yy1.g.R,D.sl false false Ty.bool yy1.g.L,D.sl false false yy2.sl yy1.W,D.sl false false yy6 (Mi yy1.M)],D.sl false false (yy2.prod yy2).sl B] (D.tup [D.v (Value.int .i64 (checkR yy1 B).fst),D.v (Value.int .i64 (checkR yy1 B).snd)]) [] []∧Value.int .i64 g.h=Value.int .i64 yy1.g.h∧Value.int .i64 g.w=Value.int .i64 yy1.g.w∧g.B=yy1.g.B∧g.R=yy1.g.R∧g.L=yy1.g.L∧W=yy1.W∧Mi M=Mi yy1.M∧B=B∧((yy3.fst==(checkR yy1 B).fst)=true→((yy3.snd==(checkR yy1 B).snd)=true→Con Tryd.prog 57 [] [D.agg [D.v (Value.int .i64 yy0.g.h),D.v (Value.int .i64 yy0.g.w),D.sl false false Ty.bool yy0.g.B,D.sl false false Ty.bool yy0.g.R,D.sl false false Ty.bool yy0.g.L,D.sl false false yy2.sl yy0.W,D.sl false false yy6 (Mi yy0.M)],D.agg [D.v yy9,D.v (Value.int .i64 yy1.g.w),D.sl false false Ty.bool yy1.g.B,D.sl false false Ty.bool yy1.g.R,D.sl false false Ty.bool yy1.g.L,D.sl false false yy2.sl yy1.W,D.sl false false yy6 (Mi yy1.M)]] (D.v (Value.bool (decide yy5))) [] []∧Value.int .i64 yy1.g.h=Value.int .i64 yy0.g.h∧Value.int .i64 yy1.g.w=Value.int .i64 yy0.g.w∧List.take yy1.g.B.length (List.drop 0 yy1.g.B)=yy0.g.B∧List.take yy1.g.R.length (List.drop 0 yy1.g.R)=yy0.g.R∧List.take yy1.g.L.length (List.drop 0 yy1.g.L)=yy0.g.L∧List.take yy1.W.length (List.drop 0 yy1.W)=yy0.W∧List.take yy1.M.length (List.drop 0 (Mi yy1.M))=Mi yy0.M∧Value.int .i64 g.h=Value.int .i64 yy1.g.h∧Value.int .i64 g.w=Value.int .i64 yy1.g.w∧g.B=yy1.g.B∧g.R=yy1.g.R∧g.L=yy1.g.L∧W=yy1.W∧Mi M=Mi yy1.M∧(decide yy5=true→Con Tryd.prog 58 [] [D.sl false false (yy2.prod yy2).sl (List.take B.length yy7),D.sl false false (yy2.prod yy2).sl B] (D.v yy8) [] []∧List.take B.length yy7=List.take B.length yy7∧B=B∧R (D.v yy8,[],[]))∧(decide yy5=false→R (D.v (Value.bool false),[],[])))∧((yy3.snd==(checkR yy1 B).snd)=false→false=false∧R (D.v (Value.bool false),[],[])))∧((yy3.fst==(checkR yy1 B).fst)=false→false=false∧false=false∧R (D.v (Value.bool false),[],[]))))) hmG Tryd.func12 (by kernel_rfl) (by kernel_rfl) (fun G R=>by kernel_rfl) ?_
 try dsimp only
 try dsimp only
 have hW1:=F.W
 have hw1:=F.w
 have hM1:=F.M
 simp only at hW1 hw1 hM1
 have c53:=d58 g W M F.g hW1 hw1 hM1
 have c54:=d54R B hB hw
 have c55:=d55R g W M B F.small hw
 have c56:=d56R g W M B F.small hw
 have c57:=d64 g W M g W M (fits_small F.g) hM1 hW1 hw1
 have c58:=d58R B B hB hw
 simp only[and_self,decide_true] at c57 c58
 obtain⟨r,hr⟩:∃r,checkR ⟨g,W,M⟩ B=r:=⟨_,rfl⟩
 rw[hr] at c55 c56
 have w1:(r.1==r.1)=true:=by simp
 have w2:(r.2==r.2)=true:=by simp
 simp only[take_len,List.drop_zero,List.take_length,Mi_getD,Mi_len,Nt_Mi,Int.toNat_natCast,Mi_set,Nat.zero_add,Nat.sub_zero,List.length_set,take_one,takeSn,List.take_zero,List.nil_append,List.length_append,List.length_cons,List.length_nil,Mi_take]
 simp only[hr,w1,w2,and_self,decide_true,Bool.not_true]
 simp (disch:=omega) only[oo,oop,ne_eq,Ty.dflt,reduceCtorEq]
 repeat' (first|with_reducible refine And.intro ?_ ?_|intro _)
 all_goals first|rfl|omega|assumption|trivial|exact room92 (by omega)|exact room90 (by omega)|(exfalso;simp_all;done)|(exfalso;omega)|skip
end Go.Proofs.YtnakmganodkliaaDoorAm
set_option maxRecDepth 100000
namespace Go.Proofs.YtnakmganodkliaaDoorAm
open Go
theorem con_lenT {P:Program} {f:FuncId} {args:List D} {n:Nat} {cap:Option Nat} {allocs:List Row} {x:Value} (h:Con P f [] args (.tup [.own 0 0 n cap,.v x]) [] allocs):Con P f [] args (.tup [.lenv n,.v x]) [] []:=by
 refine⟨h.fn,fun w ρ S vs M hargs=>(h.run w ρ S vs M hargs).mono ?_⟩
 rintro ex w' ⟨v,ρ',S',h1,h2,h3⟩
 have hp:=mem_pack h2 (n:=0) rfl (ids:=[]) (ds:=[]) rfl
 simp only[RelD] at h3
 obtain⟨us,hv,h4⟩:=h3
 simp only[RelDs] at h4
 obtain⟨u1,us1,rfl,hu1,u2,us2,rfl,hu2,rfl⟩:=h4
 obtain⟨A,c,e⟩:=lenD_rel (d:= .own 0 0 n cap) rfl hu1
 refine⟨v,fun k=>ρ' (([]:List Nat).getD k 0),S',h1,hp,?_⟩
 simp only[RelD,RelDs] at hu2⊢
 exact⟨_,hv,u1,_,rfl,⟨A,c,e⟩,u2,_,rfl,hu2,rfl⟩
def g1:Gr:=⟨2,2,[false,false,false,false],[false,false,false,false],[false,false,false,false]⟩
def p1:Pr:=⟨g1,[[0,1],[2,3]],[15,15,15,15]⟩
theorem nar1:checkP p1=0∧(spreadG p1 [] []).2=false∧checkR p1 [[]]=(0,0)∧checkR p1 []=(0,151):=by
 refine⟨?_,?_,?_,?_⟩<;>kernel_rfl
abbrev prC (p:Pr):List D:=[.v (.int .i64 p.g.h),.v (.int .i64 p.g.w),.sl false false .bool p.g.B,.sl false false .bool p.g.R,.sl false false .bool p.g.L,slW p.W,slU p.M]
abbrev seaR (b:Nat) (d:D) (p:Pr) (n:Int):Row:= .box 129 (.fn 97 [.ptr b 0 0]:: .v (.bool true)::d::(prC p++[.v (.int .i64 n)]))
abbrev nilD:D:= .v (.slice none 0 0)
def spU:Sp:=fun f args rd=>match f,args with
 |147,[.v (.slice none 0 0)]=>some {f:=147,args:=[nilD],val:=nilD}
 |96,[.agg [.v (.int _ h),.v (.int _ w),b,r,l,ws,ms]]=>withP rd h w b r l ws ms fun p ls=>some {f:=96,args:=[p.d],val:= .ptr 0 0 0,allocs:=[.box 129 (.v .nilFunc:: .v (.bool false)::nilD::(prC p++[.v (.int .i64 0)]))],lent:=ls}
 |128,[.ptr a _ _,.v (.slice none 0 0)]=>match rd a with
  |some (.box _ [.fn 97 [.ptr q _ _],.v (.bool true),.v (.slice none 0 0),.v (.int _ h),.v (.int _ w),b,r,l,ws,ms,.v (.int _ n)])=>withP rd h w b r l ws ms fun p ls=>some {f:=128,args:=[.ptr 0 0 0,nilD],pre:=[seaR 1 nilD p n,.box 4 [.v (.bool false)]],val:= .tup [],post:=[some (seaR 1 (.own 2 0 1 none) p n),some (.box 4 [.v (.bool false)])],allocs:=[.data 90 BT [[]]],cap:=[a,q]}
  |_=>none
 |127,[.v (.slice none 0 0),.ptr a _ _,.ptr d _ _]=>match rd a with
  |some (.box _ [.ptr s _ _])=>match rd s with
   |some (.box _ [.fn 97 [.ptr q _ _],.v (.bool true),.v (.slice none 0 0),.v (.int _ h),.v (.int _ w),b,r,l,ws,ms,.v (.int _ n)])=>withP rd h w b r l ws ms fun p ls=>some {f:=127,args:=[nilD,.ptr 0 0 0,.ptr 1 0 0],pre:=[.box 125 [.ptr 2 0 0],.box 159 [.fn 127 [.ptr 0 0 0,.ptr 1 0 0]],seaR 3 nilD p 0,.box 4 [.v (.bool false)]],val:= .v (.int .i64 0),post:=[some (.box 125 [.ptr 2 0 0]),some (.box 159 [.fn 127 [.ptr 0 0 0,.ptr 1 0 0]]),some (seaR 3 (.own 4 0 1 none) p 1),some (.box 4 [.v (.bool false)])],allocs:=[.data 90 BT [[]]],cap:=[a,d,s,q]}
   |_=>none
  |_=>none
 |98,[.ptr s _ _]=>match rd s with
  |some (.box _ [.fn 97 [.ptr q _ _],.v (.bool true),.v (.slice none 0 0),.v (.int _ h),.v (.int _ w),b,r,l,ws,ms,.v (.int _ n)])=>withP rd h w b r l ws ms fun p ls=>some {f:=98,args:=[.ptr 0 0 0],pre:=[seaR 1 nilD p 0,.box 4 [.v (.bool false)]],val:= .v (.bool true),post:=[some (seaR 1 (.own 2 0 1 none) p 1),some (.box 4 [.v (.bool false)])],allocs:=[.data 90 BT [[]]],cap:=[s,q]}
  |_=>none
 |59,[.agg [.v (.int _ h),.v (.int _ w),b,r,l,ws,ms]]=>withP rd h w b r l ws ms fun p ls=>some {f:=59,args:=[p.d],val:= .tup [.own 0 0 1 none,.v (.int .i64 0)],allocs:=[.data 90 BT [[]]],lent:=ls}
 |f,args=>spT5 f args rd
abbrev kP:NK:=⟨90,.sl SeT,0,92,SeT⟩
def spV:Sp:=fun f args rd=>if f=2000014 then some {f:=0,args:=[],val:= .top,nk:=some kW} else if f=2000020 then some {f:=0,args:=[],val:= .top,nk:=some kP} else if f=59 then(match args with
 | [.agg [.v (.int _ h),.v (.int _ w),b,r,l,ws,ms]]=>withP rd h w b r l ws ms fun p ls=>some {f:=59,args:=[p.d],val:= .tup [.lenv 1,.v (.int .i64 0)],lent:=ls}
 |_=>none) else spU f args rd
noncomputable def r59:Code:=(Tryd.f59.body).getD .skip
noncomputable def r96:Code:=(Tryd.f96.body).getD .skip
noncomputable def r98:Code:=(Tryd.f98.body).getD .skip
noncomputable def r127:Code:=(Tryd.f127.body).getD .skip
noncomputable def r128:Code:=(Tryd.f128.body).getD .skip
noncomputable def r147:Code:=(Tryd.f147.body).getD .skip
end Go.Proofs.YtnakmganodkliaaDoorAm
set_option maxRecDepth 100000
namespace Go.Proofs.YtnakmganodkliaaDoorAm
open Go
theorem d147R:Con Tryd.prog 147 [] [.v (.slice none 0 0)] (.v (.slice none 0 0)) [] []:=by
 refine con_vc (how:=[none]) (c:=r147) (K:=(KK r147)) spU (fun _=> []) (fun _=> []) 400 (.fork .stop .stop) (V:=fun G R=>(true=true→R (D.v (Value.slice none 0 0),[],[]))∧(true=false→roomy Tryd.prog 92 0∧R (D.own 0 0 0 none,[],[Row.data 92 ((Ty.int .i64).prod (Ty.int .i64)) (List.take 0 (List.drop 0 [])++[])]))) hmG Tryd.func147 (by kernel_rfl) (by kernel_rfl) (fun G R=>by kernel_rfl) ?_
 try dsimp only
 repeat' (first|with_reducible refine And.intro ?_ ?_|intro _)
 all_goals first|rfl|omega|assumption|trivial|exact room90 (by omega)|exact c1|exact c2|exact c3|(exfalso;simp_all;done)|(exfalso;omega)|skip
theorem d96R (g:Gr) (W:List (List Int)) (M:List Nat):Con Tryd.prog 96 [] [.agg [.v (.int .i64 g.h),.v (.int .i64 g.w),.sl false false .bool g.B,.sl false false .bool g.R,.sl false false .bool g.L,slW W,slU M]] (.ptr 0 0 0) [] [.box 129 (.v .nilFunc:: .v (.bool false)::nilD::(prC ⟨g,W,M⟩++[.v (.int .i64 0)]))]:=by
 refine con_vc (how:=[none]) (c:=r96) (K:=(KK r96)) spU (fun _=> []) (fun _=> []) 400 .stop (V:=fun G R=>R (D.ptr 0 0 0,[],[Row.box 129 [D.v Value.nilFunc,D.v (Value.bool false),D.v (Value.slice none 0 0),D.v (Value.int .i64 g.h),D.v (Value.int .i64 g.w),D.sl false false Ty.bool g.B,D.sl false false Ty.bool g.R,D.sl false false Ty.bool g.L,D.sl false false (Ty.int .i64).sl W,D.sl false false (Ty.int .u64) (Mi M),D.v (Value.int .i64 (0:Int))]])) hmG Tryd.func96 (by kernel_rfl) (by kernel_rfl) (fun G R=>by kernel_rfl) ?_
 try dsimp only
 repeat' (first|with_reducible refine And.intro ?_ ?_|intro _)
 all_goals first|rfl|omega|assumption|trivial|exact room90 (by omega)|exact c1|exact c2|exact c3|(exfalso;simp_all;done)|(exfalso;omega)|skip
theorem d128R (g:Gr) (W:List (List Int)) (M:List Nat) (n:Int):Con Tryd.prog 128 [seaR 1 nilD ⟨g,W,M⟩ n,.box 4 [.v (.bool false)]] [.ptr 0 0 0,nilD] (.tup []) [some (seaR 1 (.own 2 0 1 none) ⟨g,W,M⟩ n),some (.box 4 [.v (.bool false)])] [.data 90 BT [[]]]:=by
 refine con_vc (how:=[]) (c:=r128) (K:=(KK r128)) spU (fun _=> []) (fun _=> []) 400 (.fork .stop .stop) (V:=fun G R=>(true=true→Con Tryd.prog 147 [] [D.v (Value.slice none 0 0)] (D.v (Value.slice none 0 0)) [] []∧Value.slice none 0 0=Value.slice none 0 0∧roomy Tryd.prog 90 1∧R (D.tup [],[some (Row.box 129 [D.fn 97 [D.ptr 1 0 0],D.v (Value.bool true),D.own 2 0 1 none,D.v (Value.int .i64 (Pr.mk g W M).g.h),D.v (Value.int .i64 (Pr.mk g W M).g.w),D.sl false false Ty.bool (Pr.mk g W M).g.B,D.sl false false Ty.bool (Pr.mk g W M).g.R,D.sl false false Ty.bool (Pr.mk g W M).g.L,D.sl false false (Ty.int .i64).sl (Pr.mk g W M).W,D.sl false false (Ty.int .u64) (Mi (Pr.mk g W M).M),D.v (Value.int .i64 n)]),some (Row.box 4 [D.v (Value.bool false)])],[Row.data 90 ((Ty.int .i64).prod (Ty.int .i64)).sl (List.take 1 (List.drop 0 [[]]))]))∧(true=false→R (D.tup [],[some (Row.box 129 [D.fn 97 [D.ptr 1 0 0],D.v (Value.bool true),D.v (Value.slice none 0 0),D.v (Value.int .i64 (Pr.mk g W M).g.h),D.v (Value.int .i64 (Pr.mk g W M).g.w),D.sl false false Ty.bool (Pr.mk g W M).g.B,D.sl false false Ty.bool (Pr.mk g W M).g.R,D.sl false false Ty.bool (Pr.mk g W M).g.L,D.sl false false (Ty.int .i64).sl (Pr.mk g W M).W,D.sl false false (Ty.int .u64) (Mi (Pr.mk g W M).M),D.v (Value.int .i64 n)]),some (Row.box 4 [D.v (Value.bool false)])],[]))) hmG Tryd.func128 (by kernel_rfl) (by kernel_rfl) (fun G R=>by kernel_rfl) ?_
 try dsimp only
 have c1:=d147R
 simp (disch:=omega) only[oo,oop,ne_eq,Ty.dflt,reduceCtorEq]
 repeat' (first|with_reducible refine And.intro ?_ ?_|intro _)
 all_goals first|rfl|omega|assumption|trivial|exact room90 (by omega)|exact c1|exact c2|exact c3|(exfalso;simp_all;done)|(exfalso;omega)|skip
theorem d127R (g:Gr) (W:List (List Int)) (M:List Nat) (hc:checkP ⟨g,W,M⟩=0) (hM:Smalls M) (hs:(spreadG ⟨g,W,M⟩ [] []).2=false):Con Tryd.prog 127 [.box 125 [.ptr 2 0 0],.box 159 [.fn 127 [.ptr 0 0 0,.ptr 1 0 0]],seaR 3 nilD ⟨g,W,M⟩ 0,.box 4 [.v (.bool false)]] [nilD,.ptr 0 0 0,.ptr 1 0 0] (.v (.int .i64 0)) [some (.box 125 [.ptr 2 0 0]),some (.box 159 [.fn 127 [.ptr 0 0 0,.ptr 1 0 0]]),some (seaR 3 (.own 4 0 1 none) ⟨g,W,M⟩ 1),some (.box 4 [.v (.bool false)])] [.data 90 BT [[]]]:=by
 refine con_vc (how:=[none]) (c:=r127) (K:=(KK r127)) spU (fun _=> []) (fun _=> []) 400 (.fork .stop (.t .stop)) (V:=fun G R=>let yy0:=(Pr.mk (Pr.mk g W M).g (Pr.mk g W M).W (Nt (Mi (Pr.mk g W M).M)));let yy1:=(Row.box 129 [D.fn 97 [D.ptr 3 0 0],D.v (Value.bool true),D.v (Value.slice none 0 0),D.v (Value.int .i64 (Pr.mk g W M).g.h),D.v (Value.int .i64 (Pr.mk g W M).g.w),D.sl false false Ty.bool (Pr.mk g W M).g.B,D.sl false false Ty.bool (Pr.mk g W M).g.R,D.sl false false Ty.bool (Pr.mk g W M).g.L,D.sl false false (Ty.int .i64).sl (Pr.mk g W M).W,D.sl false false (Ty.int .u64) (Mi (Pr.mk g W M).M),D.v (Value.int .i64 (IntKind.i64.wrap ((0:Int)+(1:Int))))]);let yy2:=(Ty.int .i64);let yy3:=(Value.int .i64 (IntKind.i64.wrap ((0:Int)+(1:Int))));let yy4:=(Row.box 4 [D.v (Value.bool false)]);let yy5:=(Value.int .i64 yy0.g.h);let yy6:=(Value.int .i64 yy0.g.w);let yy7:=(Ty.int .u64);(decide (IntKind.i64.wrap ((0:Int)+(1:Int))>(66000:Int))=true→R (D.v (Value.int .i64 (2:Int)),[some (Row.box 125 [D.ptr 2 0 0]),some (Row.box 159 [D.fn 127 [D.ptr 0 0 0,D.ptr 1 0 0]]),some yy1,some yy4],[]))∧(decide (IntKind.i64.wrap ((0:Int)+(1:Int))>(66000:Int))=false→Con Tryd.prog 92 [] [D.agg [D.v yy5,D.v yy6,D.sl false false Ty.bool yy0.g.B,D.sl false false Ty.bool yy0.g.R,D.sl false false Ty.bool yy0.g.L,D.sl false false yy2.sl yy0.W,D.sl false false yy7 (Mi yy0.M)],D.sl false false (yy2.prod yy2) [],D.sl false false (yy2.prod yy2).sl []] (D.tup [D.own 0 0 (spreadG yy0 [] []).fst.length none,D.v (Value.bool (spreadG yy0 [] []).snd)]) [] [Row.data 22 yy7 (Mi (spreadG yy0 [] []).fst)]∧Value.int .i64 (Pr.mk g W M).g.h=Value.int .i64 yy0.g.h∧Value.int .i64 (Pr.mk g W M).g.w=Value.int .i64 yy0.g.w∧(Pr.mk g W M).g.B=yy0.g.B∧(Pr.mk g W M).g.R=yy0.g.R∧(Pr.mk g W M).g.L=yy0.g.L∧(Pr.mk g W M).W=yy0.W∧Mi (Pr.mk g W M).M=Mi yy0.M∧([]:List (Int×Int))=[]∧([]:List (List (Int×Int)))=[]∧(!(spreadG yy0 [] []).snd)=true∧Con Tryd.prog 128 [Row.box 129 [D.fn 97 [D.ptr 1 0 0],D.v (Value.bool true),D.v (Value.slice none 0 0),D.v yy5,D.v yy6,D.sl false false Ty.bool yy0.g.B,D.sl false false Ty.bool yy0.g.R,D.sl false false Ty.bool yy0.g.L,D.sl false false yy2.sl yy0.W,D.sl false false yy7 (Mi yy0.M),D.v yy3],Row.box 4 [D.v (Value.bool false)]] [D.ptr 0 0 0,D.v (Value.slice none 0 0)] (D.tup []) [some (Row.box 129 [D.fn 97 [D.ptr 1 0 0],D.v (Value.bool true),D.own 2 0 1 none,D.v yy5,D.v yy6,D.sl false false Ty.bool yy0.g.B,D.sl false false Ty.bool yy0.g.R,D.sl false false Ty.bool yy0.g.L,D.sl false false yy2.sl yy0.W,D.sl false false yy7 (Mi yy0.M),D.v yy3]),some yy4] [Row.data 90 (yy2.prod yy2).sl [[]]]∧2=2∧0=0∧0=0∧Value.slice none 0 0=Value.slice none 0 0∧some yy1=some (Row.box 129 [D.fn 97 [D.ptr 3 0 0],D.v (Value.bool true),D.v (Value.slice none 0 0),D.v yy5,D.v yy6,D.sl false false Ty.bool yy0.g.B,D.sl false false Ty.bool yy0.g.R,D.sl false false Ty.bool yy0.g.L,D.sl false false yy2.sl yy0.W,D.sl false false yy7 (Mi yy0.M),D.v yy3])∧some yy4=some yy4∧R (D.v (Value.int .i64 (0:Int)),[some (Row.box 125 [D.ptr 2 0 0]),some (Row.box 159 [D.fn 127 [D.ptr 0 0 0,D.ptr 1 0 0]]),some (Row.box 129 [D.fn 97 [D.ptr 3 0 0],D.v (Value.bool true),D.own 4 0 1 none,D.v yy5,D.v yy6,D.sl false false Ty.bool yy0.g.B,D.sl false false Ty.bool yy0.g.R,D.sl false false Ty.bool yy0.g.L,D.sl false false yy2.sl yy0.W,D.sl false false yy7 (Mi yy0.M),D.v yy3]),some yy4],[Row.data 90 (yy2.prod yy2).sl [[]]]))) hmG Tryd.func127 (by kernel_rfl) (by kernel_rfl) (fun G R=>by kernel_rfl) ?_
 try dsimp only
 try dsimp only
 have c92:=d92 g W M [] [] hc hM (by simp) (by simp) (by simp) (by simp)
 rw[hs] at c92
 have c1:=d128R g W M 1
 have w1:IntKind.i64.wrap ((0:Int)+1)=1:=by decide
 simp only[w1,Nt_Mi,hs]
 simp (disch:=omega) only[oo,oop,ne_eq,Ty.dflt,reduceCtorEq]
 repeat' (first|with_reducible refine And.intro ?_ ?_|intro _)
 all_goals first|rfl|omega|assumption|trivial|exact room90 (by omega)|exact c1|exact c2|exact c3|(exfalso;simp_all;done)|(exfalso;omega)|skip
theorem d98R (g:Gr) (W:List (List Int)) (M:List Nat) (hc:checkP ⟨g,W,M⟩=0) (hM:Smalls M) (hs:(spreadG ⟨g,W,M⟩ [] []).2=false):Con Tryd.prog 98 [seaR 1 nilD ⟨g,W,M⟩ 0,.box 4 [.v (.bool false)]] [.ptr 0 0 0] (.v (.bool true)) [some (seaR 1 (.own 2 0 1 none) ⟨g,W,M⟩ 1),some (.box 4 [.v (.bool false)])] [.data 90 BT [[]]]:=by
 refine con_vc (how:=[none]) (c:=r98) (K:=(KK r98)) spU (fun _=> []) (fun _=> []) 400 .stop (V:=fun G R=>let yy0:=(Pr.mk (Pr.mk g W M).g (Pr.mk g W M).W (Nt (Mi (Pr.mk g W M).M)));let yy1:=(Ty.int .i64);let yy2:=(Row.box 4 [D.v (Value.bool false)]);let yy3:=(Value.int .i64 (0:Int));let yy4:=(Value.int .i64 yy0.g.h);let yy5:=(Value.int .i64 yy0.g.w);let yy6:=(Ty.int .u64);Con Tryd.prog 127 [Row.box 125 [D.ptr 2 0 0],Row.box 159 [D.fn 127 [D.ptr 0 0 0,D.ptr 1 0 0]],Row.box 129 [D.fn 97 [D.ptr 3 0 0],D.v (Value.bool true),D.v (Value.slice none 0 0),D.v yy4,D.v yy5,D.sl false false Ty.bool yy0.g.B,D.sl false false Ty.bool yy0.g.R,D.sl false false Ty.bool yy0.g.L,D.sl false false yy1.sl yy0.W,D.sl false false yy6 (Mi yy0.M),D.v yy3],Row.box 4 [D.v (Value.bool false)]] [D.v (Value.slice none 0 0),D.ptr 0 0 0,D.ptr 1 0 0] (D.v yy3) [some (Row.box 125 [D.ptr 2 0 0]),some (Row.box 159 [D.fn 127 [D.ptr 0 0 0,D.ptr 1 0 0]]),some (Row.box 129 [D.fn 97 [D.ptr 3 0 0],D.v (Value.bool true),D.own 4 0 1 none,D.v yy4,D.v yy5,D.sl false false Ty.bool yy0.g.B,D.sl false false Ty.bool yy0.g.R,D.sl false false Ty.bool yy0.g.L,D.sl false false yy1.sl yy0.W,D.sl false false yy6 (Mi yy0.M),D.v (Value.int .i64 (1:Int))]),some yy2] [Row.data 90 (yy1.prod yy1).sl [[]]]∧Value.slice none 0 0=Value.slice none 0 0∧2=2∧0=0∧0=0∧3=3∧0=0∧0=0∧some (Row.box 125 [D.ptr 0 0 0])=some (Row.box 125 [D.ptr 0 0 0])∧some (Row.box 159 [D.fn 127 [D.ptr 2 0 0,D.ptr 3 0 0]])=some (Row.box 159 [D.fn 127 [D.ptr 2 0 0,D.ptr 3 0 0]])∧some (Row.box 129 [D.fn 97 [D.ptr 1 0 0],D.v (Value.bool true),D.v (Value.slice none 0 0),D.v (Value.int .i64 (Pr.mk g W M).g.h),D.v (Value.int .i64 (Pr.mk g W M).g.w),D.sl false false Ty.bool (Pr.mk g W M).g.B,D.sl false false Ty.bool (Pr.mk g W M).g.R,D.sl false false Ty.bool (Pr.mk g W M).g.L,D.sl false false yy1.sl (Pr.mk g W M).W,D.sl false false yy6 (Mi (Pr.mk g W M).M),D.v yy3])=some (Row.box 129 [D.fn 97 [D.ptr 1 0 0],D.v (Value.bool true),D.v (Value.slice none 0 0),D.v yy4,D.v yy5,D.sl false false Ty.bool yy0.g.B,D.sl false false Ty.bool yy0.g.R,D.sl false false Ty.bool yy0.g.L,D.sl false false yy1.sl yy0.W,D.sl false false yy6 (Mi yy0.M),D.v yy3])∧some yy2=some yy2∧R (D.v (Value.bool ((0:Int) !=(2:Int))),[some (Row.box 129 [D.fn 97 [D.ptr 1 0 0],D.v (Value.bool true),D.own 2 0 1 none,D.v yy4,D.v yy5,D.sl false false Ty.bool yy0.g.B,D.sl false false Ty.bool yy0.g.R,D.sl false false Ty.bool yy0.g.L,D.sl false false yy1.sl yy0.W,D.sl false false yy6 (Mi yy0.M),D.v (Value.int .i64 (1:Int))]),some yy2],[Row.data 90 (yy1.prod yy1).sl [[]]])) hmG Tryd.func98 (by kernel_rfl) (by kernel_rfl) (fun G R=>by kernel_rfl) ?_
 try dsimp only
 try dsimp only
 have c1:=d127R g W M hc hM hs
 simp only[Nt_Mi]
 simp (disch:=omega) only[oo,oop,ne_eq,Ty.dflt,reduceCtorEq]
 repeat' (first|with_reducible refine And.intro ?_ ?_|intro _)
 all_goals first|rfl|omega|assumption|trivial|exact room90 (by omega)|exact c1|exact c2|exact c3|(exfalso;simp_all;done)|(exfalso;omega)|skip
theorem d59R (g:Gr) (W:List (List Int)) (M:List Nat) (hc:checkP ⟨g,W,M⟩=0) (hM:Smalls M) (hs:(spreadG ⟨g,W,M⟩ [] []).2=false):Con Tryd.prog 59 [] [.agg [.v (.int .i64 g.h),.v (.int .i64 g.w),.sl false false .bool g.B,.sl false false .bool g.R,.sl false false .bool g.L,slW W,slU M]] (.tup [.own 0 0 1 none,.v (.int .i64 0)]) [] [.data 90 BT [[]]]:=by
 refine con_vc (how:=[none,none]) (c:=r59) (K:=(KK r59)) spU (fun _=> []) (fun _=> []) 400 (.fork .stop (.fork .stop (.fork (.t .stop) (.fork .stop .stop)))) (V:=fun G R=>let yy0:=(Pr.mk g W (Nt (Mi M)));let yy1:=(Pr.mk yy0.g yy0.W (Nt (Mi yy0.M)));let yy2:=(Ty.int .i64);let yy3:=(Value.slice none 0 0);let yy4:=(Value.int .i64 (0:Int));let yy5:=(Ty.int .u64);let yy6:=(Value.int .i64 yy0.g.h);let yy7:=(Value.int .i64 yy0.g.w);Con Tryd.prog 89 [] [D.agg [D.v yy6,D.v yy7,D.sl false false Ty.bool yy0.g.B,D.sl false false Ty.bool yy0.g.R,D.sl false false Ty.bool yy0.g.L,D.sl false false yy2.sl yy0.W,D.sl false false yy5 (Mi yy0.M)]] (D.v (Value.int .i64 (checkP yy0))) [] []∧Value.int .i64 g.h=Value.int .i64 yy0.g.h∧Value.int .i64 g.w=Value.int .i64 yy0.g.w∧g.B=yy0.g.B∧g.R=yy0.g.R∧g.L=yy0.g.L∧W=yy0.W∧Mi M=Mi yy0.M∧((checkP yy0 !=(0:Int))=true→R (D.tup [D.v yy3,D.v (Value.int .i64 (checkP yy0))],[],[]))∧((checkP yy0 !=(0:Int))=false→Con Tryd.prog 96 [] [D.agg [D.v yy6,D.v yy7,D.sl false false Ty.bool yy0.g.B,D.sl false false Ty.bool yy0.g.R,D.sl false false Ty.bool yy0.g.L,D.sl false false yy2.sl yy0.W,D.sl false false yy5 (Mi yy0.M)]] (D.ptr 0 0 0) [] [Row.box 129 [D.v Value.nilFunc,D.v (Value.bool false),D.v yy3,D.v yy6,D.v yy7,D.sl false false Ty.bool yy0.g.B,D.sl false false Ty.bool yy0.g.R,D.sl false false Ty.bool yy0.g.L,D.sl false false yy2.sl yy0.W,D.sl false false yy5 (Mi yy0.M),D.v yy4]]∧Value.int .i64 g.h=Value.int .i64 yy0.g.h∧Value.int .i64 g.w=Value.int .i64 yy0.g.w∧g.B=yy0.g.B∧g.R=yy0.g.R∧g.L=yy0.g.L∧W=yy0.W∧Mi M=Mi yy0.M∧Con Tryd.prog 98 [Row.box 129 [D.fn 97 [D.ptr 1 0 0],D.v (Value.bool true),D.v yy3,D.v (Value.int .i64 yy1.g.h),D.v (Value.int .i64 yy1.g.w),D.sl false false Ty.bool yy1.g.B,D.sl false false Ty.bool yy1.g.R,D.sl false false Ty.bool yy1.g.L,D.sl false false yy2.sl yy1.W,D.sl false false yy5 (Mi yy1.M),D.v yy4],Row.box 4 [D.v (Value.bool false)]] [D.ptr 0 0 0] (D.v (Value.bool true)) [some (Row.box 129 [D.fn 97 [D.ptr 1 0 0],D.v (Value.bool true),D.own 2 0 1 none,D.v (Value.int .i64 yy1.g.h),D.v (Value.int .i64 yy1.g.w),D.sl false false Ty.bool yy1.g.B,D.sl false false Ty.bool yy1.g.R,D.sl false false Ty.bool yy1.g.L,D.sl false false yy2.sl yy1.W,D.sl false false yy5 (Mi yy1.M),D.v (Value.int .i64 (1:Int))]),some (Row.box 4 [D.v (Value.bool false)])] [Row.data 90 (yy2.prod yy2).sl [[]]]∧9=9∧0=0∧0=0∧some (Row.box 129 [D.fn 97 [D.ptr 17 0 0],D.v (Value.bool true),D.v yy3,D.v yy6,D.v yy7,D.sl false false Ty.bool yy0.g.B,D.sl false false Ty.bool yy0.g.R,D.sl false false Ty.bool yy0.g.L,D.sl false false yy2.sl yy0.W,D.sl false false yy5 (Mi yy0.M),D.v yy4])=some (Row.box 129 [D.fn 97 [D.ptr 17 0 0],D.v (Value.bool true),D.v yy3,D.v (Value.int .i64 yy1.g.h),D.v (Value.int .i64 yy1.g.w),D.sl false false Ty.bool yy1.g.B,D.sl false false Ty.bool yy1.g.R,D.sl false false Ty.bool yy1.g.L,D.sl false false yy2.sl yy1.W,D.sl false false yy5 (Mi yy1.M),D.v yy4])∧some (Row.box 4 [D.v (Value.bool false)])=some (Row.box 4 [D.v (Value.bool false)])∧(false=true→R (D.tup [D.v yy3,D.v (Value.int .i64 (130:Int))],[],[]))∧(false=false→((!true)=true→true=true∧R (D.tup [D.v yy3,D.v (Value.int .i64 (2:Int))],[],[]))∧((!true)=false→(decide ((↑1:Int)>(65000:Int))=true→R (D.tup [D.v yy3,D.v (Value.int .i64 (2:Int))],[],[]))∧(decide ((↑1:Int)>(65000:Int))=false→R (D.tup [D.own 0 0 1 none,D.v yy4],[],[Row.data 90 (yy2.prod yy2).sl [[]]])))))) hmG Tryd.func59 (by kernel_rfl) (by kernel_rfl) (fun G R=>by kernel_rfl) ?_
 try dsimp only
 try dsimp only
 have c1:=d62 g W M
 have c2:=d96R g W M
 have c3:=d98R g W M hc hM hs
 rw[hc] at c1
 have w0:((0:Int) !=0)=false:=rfl
 simp only[Nt_Mi,hc,w0]
 simp (disch:=omega) only[oo,oop,ne_eq,Ty.dflt,reduceCtorEq]
 repeat' (first|with_reducible refine And.intro ?_ ?_|intro _)
 all_goals first|rfl|omega|assumption|trivial|exact room90 (by omega)|exact c1|exact c2|exact c3|(exfalso;simp_all;done)|(exfalso;omega)|skip
end Go.Proofs.YtnakmganodkliaaDoorAm
set_option maxRecDepth 100000
namespace Go.Proofs.YtnakmganodkliaaDoorAm
open Go
theorem small1:Smalls p1.M:=by
 intro x hx
 have hx:x∈ [15,15,15,15]:=hx
 simp only[List.mem_cons,List.not_mem_nil,or_false,or_self] at hx
 rw[hx]
 decide
theorem d52R:Con Tryd.prog 52 [] [] (.v (.bool true)) [] []:=by
 refine con_vc (how:=[none]) (c:=r52) (K:=(KK r52)) spV (fun _=> []) (fun _=> []) 400 (.fork (.fork (.fork (.fork (.fork .stop .stop) (.f .stop)) (.f (.f .stop))) (.f (.f (.f .stop)))) (.f (.f (.f (.f .stop))))) (V:=fun G R=>let yy0:=(Pr.mk (Gr.mk (2:Int) (2:Int) (List.replicate 4 false) (List.replicate 4 false) (List.replicate 4 false)) (List.take 2 (List.drop 0 [List.take 2 (List.drop 0 [(0:Int),(1:Int)]),List.take 2 (List.drop 0 [(2:Int),(3:Int)])])) (Nt (List.take 4 (List.drop 0 [(15:Int),(15:Int),(15:Int),(15:Int)]))));let yy1:=(List.drop 0 (List.replicate 4 false));let yy2:=(List.drop 0 [List.take 2 (List.drop 0 [(0:Int),(1:Int)]),List.take 2 (List.drop 0 [(2:Int),(3:Int)])]);let yy3:=(List.drop 0 [(15:Int),(15:Int),(15:Int),(15:Int)]);let yy4:=(Ty.int .i64);(0:Int)≤(4:Int)∧(4:Int)≤(4:Int)∧(4:Int)≤(9223372036854775807:Int)∧4≤281474976710656∧(0:Int)≤(4:Int)∧(4:Int)≤(4:Int)∧(4:Int)≤(9223372036854775807:Int)∧4≤281474976710656∧(0:Int)≤(4:Int)∧(4:Int)≤(4:Int)∧(4:Int)≤(9223372036854775807:Int)∧4≤281474976710656∧Con Tryd.prog 55 [] [D.agg [D.v (Value.int .i64 yy0.g.h),D.v (Value.int .i64 yy0.g.w),D.sl false false Ty.bool yy0.g.B,D.sl false false Ty.bool yy0.g.R,D.sl false false Ty.bool yy0.g.L,D.sl false false yy4.sl yy0.W,D.sl false false (Ty.int .u64) (Mi yy0.M)],D.sl false false (yy4.prod yy4).sl (List.take 1 (List.drop 0 [List.take 0 (List.drop 0 [])]))] (D.tup [D.v (Value.int .i64 (checkR yy0 (List.take 1 (List.drop 0 [List.take 0 (List.drop 0 [])]))).fst),D.v (Value.int .i64 (checkR yy0 (List.take 1 (List.drop 0 [List.take 0 (List.drop 0 [])]))).snd)]) [] []∧Value.int .i64 (2:Int)=Value.int .i64 yy0.g.h∧Value.int .i64 (2:Int)=Value.int .i64 yy0.g.w∧List.take 4 yy1=yy0.g.B∧List.take 4 yy1=yy0.g.R∧List.take 4 yy1=yy0.g.L∧List.take 2 yy2=yy0.W∧List.take 4 yy3=Mi yy0.M∧(List.take 1 (List.drop 0 [List.take 0 (List.drop 0 [])]):List (List (Int×Int)))=List.take 1 (List.drop 0 [List.take 0 (List.drop 0 [])])∧Con Tryd.prog 55 [] [D.agg [D.v (Value.int .i64 yy0.g.h),D.v (Value.int .i64 yy0.g.w),D.sl false false Ty.bool yy0.g.B,D.sl false false Ty.bool yy0.g.R,D.sl false false Ty.bool yy0.g.L,D.sl false false yy4.sl yy0.W,D.sl false false (Ty.int .u64) (Mi yy0.M)],D.sl false false (yy4.prod yy4).sl []] (D.tup [D.v (Value.int .i64 (checkR yy0 []).fst),D.v (Value.int .i64 (checkR yy0 []).snd)]) [] []∧Value.int .i64 (2:Int)=Value.int .i64 yy0.g.h∧Value.int .i64 (2:Int)=Value.int .i64 yy0.g.w∧List.take 4 yy1=yy0.g.B∧List.take 4 yy1=yy0.g.R∧List.take 4 yy1=yy0.g.L∧List.take 2 yy2=yy0.W∧List.take 4 yy3=Mi yy0.M∧([]:List (List (Int×Int)))=[]∧Con Tryd.prog 59 [] [D.agg [D.v (Value.int .i64 yy0.g.h),D.v (Value.int .i64 yy0.g.w),D.sl false false Ty.bool yy0.g.B,D.sl false false Ty.bool yy0.g.R,D.sl false false Ty.bool yy0.g.L,D.sl false false yy4.sl yy0.W,D.sl false false (Ty.int .u64) (Mi yy0.M)]] (D.tup [D.lenv 1,D.v (Value.int .i64 (0:Int))]) [] []∧Value.int .i64 (2:Int)=Value.int .i64 yy0.g.h∧Value.int .i64 (2:Int)=Value.int .i64 yy0.g.w∧List.take 4 yy1=yy0.g.B∧List.take 4 yy1=yy0.g.R∧List.take 4 yy1=yy0.g.L∧List.take 2 yy2=yy0.W∧List.take 4 yy3=Mi yy0.M∧(((checkR yy0 (List.take 1 (List.drop 0 [List.take 0 (List.drop 0 [])]))).fst==(0:Int))=true→(((checkR yy0 (List.take 1 (List.drop 0 [List.take 0 (List.drop 0 [])]))).snd==(0:Int))=true→(((checkR yy0 []).fst==(0:Int))=true→(((checkR yy0 []).snd==(151:Int))=true→(((0:Int)==(0:Int))=true→R (D.v (Value.bool true),[],[]))∧(((0:Int)==(0:Int))=false→R (D.v (Value.bool false),[],[])))∧(((checkR yy0 []).snd==(151:Int))=false→false=false∧R (D.v (Value.bool false),[],[])))∧(((checkR yy0 []).fst==(0:Int))=false→false=false∧false=false∧R (D.v (Value.bool false),[],[])))∧(((checkR yy0 (List.take 1 (List.drop 0 [List.take 0 (List.drop 0 [])]))).snd==(0:Int))=false→false=false∧false=false∧false=false∧R (D.v (Value.bool false),[],[])))∧(((checkR yy0 (List.take 1 (List.drop 0 [List.take 0 (List.drop 0 [])]))).fst==(0:Int))=false→false=false∧false=false∧false=false∧false=false∧R (D.v (Value.bool false),[],[]))) hmG Tryd.func52 (by kernel_rfl) (by kernel_rfl) (fun G R=>by kernel_rfl) ?_
 try dsimp only
 try dsimp only
 obtain⟨h1,h2,h3,h4⟩:=nar1
 have c1:=d55R p1.g p1.W p1.M [[]] small1 (by intro l hl;simp only[List.mem_singleton] at hl;subst hl;simp)
 have c2:=d55R p1.g p1.W p1.M [] small1 (by simp)
 have c3:=con_lenT (d59R p1.g p1.W p1.M h1 small1 h2)
 have e1:checkR (Pr.mk (Gr.mk (2:Int) (2:Int) (List.replicate 4 false) (List.replicate 4 false) (List.replicate 4 false)) (List.take 2 (List.drop 0 [List.take 2 (List.drop 0 [(0:Int),(1:Int)]),List.take 2 (List.drop 0 [(2:Int),(3:Int)])])) (Nt (List.take 4 (List.drop 0 [(15:Int),(15:Int),(15:Int),(15:Int)])))) (List.take 1 (List.drop 0 [List.take 0 (List.drop 0 [])]))=(0,0):=h3
 have e2:checkR (Pr.mk (Gr.mk (2:Int) (2:Int) (List.replicate 4 false) (List.replicate 4 false) (List.replicate 4 false)) (List.take 2 (List.drop 0 [List.take 2 (List.drop 0 [(0:Int),(1:Int)]),List.take 2 (List.drop 0 [(2:Int),(3:Int)])])) (Nt (List.take 4 (List.drop 0 [(15:Int),(15:Int),(15:Int),(15:Int)])))) []=(0,151):=h4
 rw[show checkR ⟨p1.g,p1.W,p1.M⟩ [[]]=(0,0) from h3] at c1
 rw[show checkR ⟨p1.g,p1.W,p1.M⟩ []=(0,151) from h4] at c2
 simp only[e1,e2]
 repeat' (first|with_reducible refine And.intro ?_ ?_|intro _)
 all_goals first|rfl|omega|decide|trivial|exact c1|exact c2|exact c3|(exfalso;simp_all;done)|skip
theorem d12 (g:Gr) (W:List (List Int)) (M:List Nat) (B:List (List (Int×Int))) (F:(Pr.mk g W M).fits) (hB:B.length≤5864062014805) (hw:∀s∈B,s.length≤8796093022208):Con Tryd.prog 12 [] [.agg [.v (.int .i64 g.h),.v (.int .i64 g.w),.sl false false .bool g.B,.sl false false .bool g.R,.sl false false .bool g.L,slW W,slU M],slBd B] (.v (.bool true)) [] []:=d12R g W M B d52R F hB hw
end Go.Proofs.YtnakmganodkliaaDoorAm
