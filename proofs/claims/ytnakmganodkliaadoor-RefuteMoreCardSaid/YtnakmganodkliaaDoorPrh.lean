/- Refutations: a refutation stays one with its nogoods said twice and with fewer letters, and what it leans on. (part 8) -/
import Derived.Test.YtnakmganodkliaaDoorPrg
set_option linter.unusedVariables false
set_option linter.unusedSimpArgs false
set_option maxRecDepth 100000
namespace Go.Proofs.YtnakmganodkliaaDoorAm
open Go
theorem d103 (c:Int):Con Tryd.prog 120 [] [.v (.int .i64 c)] ((.v (.bool (oddB c)))) [] []:=by
 refine con_vc (how:=[none]) (c:=n103) (K:=(KK n103)) spNa (fun _=> []) (fun _=> []) 400 (.fork .stop .stop) (V:=fun G R=>(decide (c< (0:Int))=true→R (D.v (Value.bool true),[],[]))∧(decide (c< (0:Int))=false→R (D.v (Value.bool (decide (c>(63:Int)))),[],[]))) hmG Tryd.func120 (by kernel_rfl) (by kernel_rfl) (fun G R=>by kernel_rfl) ?_
 try dsimp only
 unfold oddB
 simp (disch:=omega) only[oo,oop,ne_eq,Ty.dflt,reduceCtorEq]
 repeat' (first|with_reducible refine And.intro ?_ ?_|intro _)
 all_goals first|rfl|omega|(simp_all;done)|(simp_all;omega)|skip
def vq5 (L:List Int) (k:Int) (G:Nat→St→Prop) (R:D×List (Option Row)×List Row→Prop):Prop:=let yy0:=(L.getD k.toNat (Ty.int .i64).dflt);(decide (k< (↑L.length:Int))=true→(0:Int)≤k∧k< (↑L.length:Int)∧Con Tryd.prog 120 [] [D.v (Value.int .i64 yy0)] (D.v (Value.bool (oddB yy0))) [] []∧Value.int .i64 yy0=Value.int .i64 yy0∧(oddB yy0=true→R (D.v (Value.int .i64 k),[],[]))∧(oddB yy0=false→SameK (KK n128 0) (KK n128 0)∧G 0 (stOf 19 [0,1,7,8] [D.sl false false (Ty.int .i64) L,D.fn 120 [],D.v (Value.int .i64 (↑L.length:Int)),D.v (Value.int .i64 (IntKind.i64.wrap (k+(1:Int))))] [])))∧(decide (k< (↑L.length:Int))=false→R (D.v (Value.int .i64 (-1:Int)),[],[]))
theorem e128 (L:List Int) (hL:(L.length:Int)≤9223372036854775807) (z:Nat):∀(k:Int),0≤k→k+z=L.length→∀r,r=findI oddB k (L.drop k.toNat)→GetsK Tryd.prog Tryd.f138.results.toList [none] (KK n128) 0 (.v (.int .i64 r),[],[]) 0 (stOf 19 [0,1,7,8] [slI L,.fn 120 [],.v (.int .i64 L.length),.v (.int .i64 k)] []):=by
 induction z with
 |zero=>
  intro k k0 hk r hr
  rw[List.drop_eq_nil_of_le (by omega)] at hr
  have hr:r= -1:=hr
  rw[hr]
  refine gets_vc spNa (fun _=> [0,1,7,8]) (fun _=> []) 400 (.fork (.fork .stop (.hd 0)) .stop) (V:=vq5 L k) hmG (fun G R=>by kernel_rfl) ?_
  unfold vq5
  try dsimp only
  simp (disch:=omega) only[oo,oop,ne_eq,Ty.dflt,reduceCtorEq]
  repeat' (first|with_reducible refine And.intro ?_ ?_|intro _)
  all_goals first|rfl|omega|assumption|trivial|(exfalso;simp_all;done)|(exfalso;omega)|skip
 |succ z ih=>
  intro k k0 hk r hr
  have hd:=drop_at (xs:=L) (i:=k) (0:Int) k0 (by omega)
  rw[hd] at hr
  simp only[findI] at hr
  have c:=d103 (L.getD k.toNat 0)
  have hk1:IntKind.i64.wrap (k+1)=k+1:=wrG (by omega) (by omega)
  have hx:=ih (k+1) (by omega) (by omega)
  refine gets_vc spNa (fun _=> [0,1,7,8]) (fun _=> []) 400 (.fork (.fork .stop (.hd 0)) .stop) (V:=vq5 L k) hmG (fun G R=>by kernel_rfl) ?_
  unfold vq5
  try dsimp only
  simp only[Ty.dflt,hk1]
  cases ho:oddB (L.getD k.toNat 0)<;>rw[ho] at c hr<;>simp only[if_true,Bool.false_eq_true,if_false] at hr<;>subst hr
  all_goals (first|(have hx:=hx _ rfl)|skip)
  all_goals simp (disch:=omega) only[oo,oop,ne_eq,Ty.dflt,reduceCtorEq];repeat' (first|with_reducible refine And.intro ?_ ?_|intro _)
  all_goals first|rfl|omega|assumption|trivial|(exfalso;simp_all;done)|(exfalso;omega)|skip
theorem d128 (L:List Int) (hL:(L.length:Int)≤9223372036854775807):Con Tryd.prog 138 [] [slI L,.fn 120 []] ((.v (.int .i64 (findI oddB 0 L)))) [] []:=by
 refine con_vc (how:=[none]) (c:=n128) (K:=(KK n128)) spNa (fun _=> [0,1,7,8]) (fun _=> []) 400 (.hd 0) (V:=fun G R=>SameK (KK n128 0) (KK n128 0)∧G 0 (stOf 19 [0,1,7,8] [D.sl false false (Ty.int .i64) L,D.fn 120 [],D.v (Value.int .i64 (↑L.length:Int)),D.v (Value.int .i64 (0:Int))] [])) hmG Tryd.func138 (by kernel_rfl) (by kernel_rfl) (fun G R=>by kernel_rfl) ?_
 try dsimp only
 have hx:=e128 L hL L.length 0 (by omega) (by omega) _ rfl
 simp only[show(0:Int).toNat=0 by rfl,List.drop_zero] at hx
 simp (disch:=omega) only[oo,oop,ne_eq,Ty.dflt,reduceCtorEq]
 repeat' (first|with_reducible refine And.intro ?_ ?_|intro _)
 all_goals first|rfl|omega|assumption|trivial|(exfalso;simp_all;done)|(exfalso;omega)|skip
theorem find_any (f:Int→Bool):∀(L:List Int) (k:Int),0≤k→decide (findI f k L≥0)=L.any f
 | [],k,_=>by simp[findI]
 |x::L,k,h=>by
  simp only[findI,List.any_cons]
  rcases Bool.eq_false_or_eq_true (f x) with e|e
  ·simp only[e,if_true,Bool.true_or]
   exact decide_eq_true h
  ·simp only[e,Bool.false_eq_true,if_false,Bool.false_or]
   exact find_any f L (k+1) (by omega)
theorem d104 (L:List Int) (hL:(L.length:Int)≤9223372036854775807):Con Tryd.prog 107 [] [slI L,.fn 120 []] ((.v (.bool (L.any oddB)))) [] []:=by
 refine con_vc (how:=[none]) (c:=n104) (K:=(KK n104)) spNa (fun _=> []) (fun _=> []) 400 .stop (V:=fun G R=>Con Tryd.prog 138 [] [D.sl false false (Ty.int .i64) L,D.fn 120 []] (D.v (Value.int .i64 (findI oddB (0:Int) L))) [] []∧L=L∧R (D.v (Value.bool (decide (findI oddB (0:Int) L≥(0:Int)))),[],[])) hmG Tryd.func107 (by kernel_rfl) (by kernel_rfl) (fun G R=>by kernel_rfl) ?_
 try dsimp only
 have c:=d128 L hL
 have e:=find_any oddB L 0 (by omega)
 rw[←e]
 simp (disch:=omega) only[oo,oop,ne_eq,Ty.dflt,reduceCtorEq]
 repeat' (first|with_reducible refine And.intro ?_ ?_|intro _)
 all_goals first|rfl|omega|assumption|trivial|(exfalso;simp_all;done)|(exfalso;omega)|skip
theorem size1 {g:Gr} (hc:checkF g=0):(g.B.length:Int)=g.h*g.w:=(size3 (chk0.1 hc).2.2.1).1
def vq6 (g:Gr) (W:List (List Int)) (M:List Nat) (k:Int) (G:Nat→St→Prop) (R:D×List (Option Row)×List Row→Prop):Prop:=let yy0:=(W.getD k.toNat (Ty.int .i64).sl.dflt);let yy1:=(↑(List.length yy0):Int);let yy2:=(Ty.int .i64);(decide (k< (↑W.length:Int))=true→(0:Int)≤k∧k< (↑W.length:Int)∧(decide (yy1< (1:Int))=true→true=true∧true=true∧R (D.v (Value.int .i64 (35:Int)),[],[]))∧(decide (yy1< (1:Int))=false→(decide (yy1>(32:Int))=true→true=true∧R (D.v (Value.int .i64 (35:Int)),[],[]))∧(decide (yy1>(32:Int))=false→Con Tryd.prog 107 [] [D.sl false false yy2 yy0,D.fn 120 []] (D.v (Value.bool (List.any yy0 oddB))) [] []∧W.getD k.toNat yy2.sl.dflt=W.getD k.toNat yy2.sl.dflt∧(List.any yy0 oddB=true→R (D.v (Value.int .i64 (35:Int)),[],[]))∧(List.any yy0 oddB=false→SameK (KK n62 0) (KK n62 0)∧G 0 (stOf 46 [1,18,19,20] [D.ptr 0 0 0,D.sl false false yy2.sl W,D.v (Value.int .i64 (↑W.length:Int)),D.v (Value.int .i64 (IntKind.i64.wrap (k+(1:Int))))] [Slot.live (Row.box 73 [D.v (Value.int .i64 g.h),D.v (Value.int .i64 g.w),D.sl false false Ty.bool g.B,D.sl false false Ty.bool g.R,D.sl false false Ty.bool g.L,D.sl false false yy2.sl W,D.sl false false (Ty.int .u64) (Mi M)])])))))∧(decide (k< (↑W.length:Int))=false→(((↑(Mi M).length:Int) !=(↑g.B.length:Int))=true→R (D.v (Value.int .i64 (120:Int)),[],[]))∧(((↑(Mi M).length:Int) !=(↑g.B.length:Int))=false→R (D.v (Value.int .i64 (0:Int)),[],[])))
theorem e62 (g:Gr) (W:List (List Int)) (M:List Nat) (hc:checkF g=0) (hW:(W.length:Int)≤1000) (z:Nat):∀(k:Int),0≤k→k+z=W.length→∀r,r=(if(W.drop k.toNat).any badW then 35 else if(M.length:Int)=g.h*g.w then 0 else 120)→GetsK Tryd.prog Tryd.f89.results.toList [none] (KK n62) 0 (.v (.int .i64 r),[],[]) 0 (stOf 46 [1,18,19,20] [.ptr 0 0 0,slW W,.v (.int .i64 W.length),.v (.int .i64 k)] [.live (.box 73 [.v (.int .i64 g.h),.v (.int .i64 g.w),.sl false false .bool g.B,.sl false false .bool g.R,.sl false false .bool g.L,slW W,slU M])]):=by
 have sz:=size1 hc
 induction z with
 |zero=>
  intro k k0 hk r hr
  rw[List.drop_eq_nil_of_le (by omega)] at hr
  simp only[List.any_nil,Bool.false_eq_true,if_false] at hr
  rw[hr,←sz]
  refine gets_vc spNa (fun _=> [1,18,19,20]) (fun _=> []) 400 (.fork (.fork (.t (.t .stop)) (.fork (.t .stop) (.fork .stop (.hd 0)))) (.fork .stop .stop)) (V:=vq6 g W M k) hmG (fun G R=>by kernel_rfl) ?_
  unfold vq6
  try dsimp only
  simp only[Mi_len]
  simp (disch:=omega) only[oo,oop,ne_eq,Ty.dflt,reduceCtorEq]
  repeat' (first|with_reducible refine And.intro ?_ ?_|intro _)
  all_goals first|rfl|omega|assumption|trivial|(simp_all;done)|(rw[if_neg (by omega)])|(rw[if_pos (by omega)])|(exfalso;simp_all;done)|(exfalso;omega)|skip
 |succ z ih=>
  intro k k0 hk r hr
  have hd:=drop_at (xs:=W) (i:=k) ([]:List Int) k0 (by omega)
  rw[hd] at hr
  simp only[List.any_cons] at hr
  have hk1:IntKind.i64.wrap (k+1)=k+1:=wrG (by omega) (by omega)
  have hx:=ih (k+1) (by omega) (by omega) _ rfl
  refine gets_vc spNa (fun _=> [1,18,19,20]) (fun _=> []) 400 (.fork (.fork (.t (.t .stop)) (.fork (.t .stop) (.fork .stop (.hd 0)))) (.fork .stop .stop)) (V:=vq6 g W M k) hmG (fun G R=>by kernel_rfl) ?_
  unfold vq6
  try dsimp only
  simp only[Ty.dflt,hk1]
  obtain⟨w,hw⟩:∃w,W.getD k.toNat []=w:=⟨_,rfl⟩
  simp only[hw] at hr⊢
  by_cases h1:(w.length:Int)<1
  ·have:badW w=true:=by unfold badW;rw[decide_eq_true h1];rfl
   rw[this] at hr
   simp only[Bool.true_or,if_true] at hr
   rw[hr]
   simp (disch:=omega) only[oo,oop,ne_eq,Ty.dflt,reduceCtorEq]
   repeat' (first|with_reducible refine And.intro ?_ ?_|intro _)
   all_goals first|rfl|omega|assumption|trivial|exact c1|(exfalso;simp_all;done)|(exfalso;omega)|skip
  ·by_cases h2:(w.length:Int)>32
   ·have:badW w=true:=by unfold badW;rw[decide_eq_true h2];simp
    rw[this] at hr
    simp only[Bool.true_or,if_true] at hr
    rw[hr]
    simp (disch:=omega) only[oo,oop,ne_eq,Ty.dflt,reduceCtorEq]
    repeat' (first|with_reducible refine And.intro ?_ ?_|intro _)
    all_goals first|rfl|omega|assumption|trivial|exact c1|(exfalso;simp_all;done)|(exfalso;omega)|skip
   ·have c1:=d104 w (by omega)
    have:badW w=w.any oddB:=by unfold badW;rw[decide_eq_false h1,decide_eq_false h2];rfl
    rw[this] at hr
    cases ho:w.any oddB<;>rw[ho] at c1 hr<;>simp only[Bool.true_or,Bool.false_or,if_true] at hr<;>subst hr
    all_goals simp (disch:=omega) only[oo,oop,ne_eq,Ty.dflt,reduceCtorEq];repeat' (first|with_reducible refine And.intro ?_ ?_|intro _)
    all_goals first|rfl|omega|assumption|trivial|exact c1|(exfalso;simp_all;done)|(exfalso;omega)|skip
theorem d62 (g:Gr) (W:List (List Int)) (M:List Nat):Con Tryd.prog 89 [] [.agg [.v (.int .i64 g.h),.v (.int .i64 g.w),.sl false false .bool g.B,.sl false false .bool g.R,.sl false false .bool g.L,slW W,slU M]] ((.v (.int .i64 (checkP ⟨g,W,M⟩)))) [] []:=by
 refine con_vc (how:=[none]) (c:=n62) (K:=(KK n62)) spNa (fun _=> [1,18,19,20]) (fun _=> []) 400 (.fork .stop (.fork .stop (.hd 0))) (V:=fun G R=>Con Tryd.prog 44 [] [D.agg [D.v (Value.int .i64 g.h),D.v (Value.int .i64 g.w),D.sl false false Ty.bool g.B,D.sl false false Ty.bool g.R,D.sl false false Ty.bool g.L]] (D.v (Value.int .i64 (checkF g))) [] []∧Value.int .i64 g.h=Value.int .i64 g.h∧Value.int .i64 g.w=Value.int .i64 g.w∧g.B=g.B∧g.R=g.R∧g.L=g.L∧((checkF g !=(0:Int))=true→R (D.v (Value.int .i64 (checkF g)),[],[]))∧((checkF g !=(0:Int))=false→(decide ((↑W.length:Int)>(1000:Int))=true→R (D.v (Value.int .i64 (111:Int)),[],[]))∧(decide ((↑W.length:Int)>(1000:Int))=false→SameK (KK n62 0) (KK n62 0)∧G 0 (stOf 46 [1,18,19,20] [D.ptr 0 0 0,D.sl false false (Ty.int .i64).sl W,D.v (Value.int .i64 (↑W.length:Int)),D.v (Value.int .i64 (0:Int))] [Slot.live (Row.box 73 [D.v (Value.int .i64 g.h),D.v (Value.int .i64 g.w),D.sl false false Ty.bool g.B,D.sl false false Ty.bool g.R,D.sl false false Ty.bool g.L,D.sl false false (Ty.int .i64).sl W,D.sl false false (Ty.int .u64) (Mi M)])])))) hmG Tryd.func89 (by kernel_rfl) (by kernel_rfl) (fun G R=>by kernel_rfl) ?_
 try dsimp only
 have cg:=d43 g
 unfold checkP
 simp only
 by_cases hc:checkF g=0
 ·rw[if_pos hc]
  by_cases hW:(W.length:Int)>1000
  ·rw[if_pos hW]
   simp (disch:=omega) only[oo,oop,ne_eq,Ty.dflt,reduceCtorEq]
   repeat' (first|with_reducible refine And.intro ?_ ?_|intro _)
   all_goals first|rfl|omega|assumption|trivial|exact cg|(exfalso;omega)|skip
  ·rw[if_neg hW]
   have hx:=e62 g W M hc (by omega) W.length 0 (by omega) (by omega) _ rfl
   simp only[show(0:Int).toNat=0 by rfl,List.drop_zero] at hx
   simp (disch:=omega) only[oo,oop,ne_eq,Ty.dflt,reduceCtorEq]
   repeat' (first|with_reducible refine And.intro ?_ ?_|intro _)
   all_goals first|rfl|omega|assumption|trivial|exact cg|(exfalso;omega)|skip
 ·rw[if_neg hc]
  simp (disch:=omega) only[oo,oop,ne_eq,Ty.dflt,reduceCtorEq]
  repeat' (first|with_reducible refine And.intro ?_ ?_|intro _)
  all_goals first|rfl|omega|assumption|trivial|exact cg|(exfalso;omega)|skip
def Smalls (m:List Nat):Prop:=∀x∈m,x<W64
theorem Smalls.at {m:List Nat} (h:Smalls m) (i:Nat):m.getD i 0<W64:=by
 rw[List.getD_eq_getElem?_getD]
 cases hi:m[i]? with
 |none=>show 0<W64;decide
 |some x=>exact h x (List.mem_of_getElem? hi)
end Go.Proofs.YtnakmganodkliaaDoorAm
namespace Go.Proofs.YtnakmganodkliaaDoorAm
open Go
theorem con_frzS {P:Program} {f:FuncId} {args:List D} {n:Nat} {cap:Option Nat} {e:TypeId} {t:Ty} {xs:List t.El} (hn:xs.length=n) (h:Con P f [] args (.own 0 0 n cap) [] [.data e t xs]):Con P f [] args (.sl false false t xs) [] []:=by
 refine⟨h.fn,fun w ρ S vs M hargs=>(h.run w ρ S vs M hargs).mono ?_⟩
 rintro ex w' ⟨v,ρ',S',h1,h2,h3⟩
 have h0:hget (List.map slotOf []++List.map Slot.live [.data e t xs]) 0=some (.data e t xs):=rfl
 have hr:rowData (hget (List.map slotOf []++List.map Slot.live [.data e t xs])) 0 0 n t=some xs:=by
  unfold rowData
  rw[h0]
  simp only[dif_pos,List.drop_zero,←hn,List.take_length]
 obtain⟨_,A,c',us',e1,k1,k2,k3,k4,k5⟩:=own_seq (S':=softS ⟨ρ',List.map slotOf []++List.map Slot.live [.data e t xs],S',w'⟩ [0]) h2 (fun _ h=> .inl h) (fun _ _ h=>h) hr (fun l hl' k hk=> .inr ⟨0,by simp,by rw[h0];simp,l,hl',hk⟩) h3
 obtain⟨M2,_⟩:=mem_kill h2 h0 (softS ⟨ρ',List.map slotOf []++List.map Slot.live [.data e t xs],S',w'⟩ [0]) (fun k hk=> .inl hk) (fun k hk=>by
  rcases hk with hk|⟨id,hid,_,l,hl,hb⟩
  ·exact .inl hk
  ·simp only[List.mem_singleton] at hid
   subst hid
   exact .inr ⟨l,hl,hb⟩)
 have hp:=mem_pack M2 (n:=0) rfl (ids:=[]) (ds:=[]) rfl
 refine⟨v,_,_,h1,hp,?_⟩
 simp only[RelD]
 exact⟨A,c',us',e1,k1,k2,by simp,by simp,k3,k4⟩
end Go.Proofs.YtnakmganodkliaaDoorAm
set_option maxRecDepth 100000
namespace Go.Proofs.YtnakmganodkliaaDoorAm
open Go
theorem getD_set_gen {α:Type} (d:α) (m:List α) (c:Nat) (v:α) (j:Nat):(m.set c v).getD j d=if c=j∧c<m.length then v else m.getD j d:=by
 simp only[List.getD_eq_getElem?_getD,List.getElem?_set]
 by_cases h:c=j
 ·subst h
  by_cases h2:c<m.length<;>simp[h2]
 ·simp[h]
theorem list_ext_getD {α:Type} (d:α) {a b:List α} (hl:a.length=b.length) (h:∀j,j<a.length→a.getD j d=b.getD j d):a=b:=by
 apply List.ext_getElem hl
 intro j h1 h2
 have:=h j h1
 rw[List.getD_eq_getElem?_getD,List.getD_eq_getElem?_getD,List.getElem?_eq_getElem h1,List.getElem?_eq_getElem h2] at this
 exact this
theorem idx_snoc (f:List Int→Bool):∀(V:List (List Int)) (w:List Int) (i:Int),idxF f i (V++[w])=idxF f i V++(if f w then [i+V.length] else [])
 | [],w,i=>by
  simp only[List.nil_append,idxF,List.length_nil]
  cases f w<;>simp
 |v::V,w,i=>by
  simp only[List.cons_append,idxF]
  rw[idx_snoc f V w (i+1)]
  have e:i+1+(V.length:Int)=i+((v::V).length:Int):=by simp;omega
  rw[e]
  cases f v<;>rfl
theorem idx_len (f:List Int→Bool):∀(V:List (List Int)) (i:Int),(idxF f i V).length≤V.length
 | [],_=>by simp[idxF]
 |v::V,i=>by
  simp only[idxF]
  have:=idx_len f V (i+1)
  split<;>simp<;>omega
theorem take_succ_at {α:Type} (d:α) (l:List α) {i:Int} (i0:0≤i) (h:i<l.length):l.take (i+1).toNat=l.take i.toNat++[l.getD i.toNat d]:=by
 rw[show(i+1).toNat=i.toNat+1 by omega,List.take_add_one,List.getD_eq_getElem?_getD,List.getElem?_eq_getElem (by omega)]
 rfl
theorem set_same {α:Type} (d:α) (l:List α) (i:Nat):l.set i (l.getD i d)=l:=by
 rcases Nat.lt_or_ge i l.length with h|h
 ·rw[List.getD_eq_getElem?_getD,List.getElem?_eq_getElem h]
  exact List.set_getElem_self h
 ·exact List.set_eq_of_length_le h
theorem bytes46:Tryd.prog.bytesOf 27=24:=by kernel_rfl
theorem bytes80:Tryd.prog.bytesOf 22=8:=by kernel_rfl
theorem room46 {n:Nat} (h:n≤1000000):roomy Tryd.prog 27 n:=by
 unfold roomy
 rw[bytes46]
 omega
end Go.Proofs.YtnakmganodkliaaDoorAm
set_option maxRecDepth 100000
namespace Go.Proofs.YtnakmganodkliaaDoorAm
open Go
structure Fine (W:List (List Int)) (S:List Slt) (m:List Nat):Prop where
 words:(W.length:Int)≤1000
 long:∀w∈W,w.length≤32
 slots:S.length≤1000
 cells:∀s∈S,s.2.2.length≤300∧∀c∈s.2.2,0≤c∧c<m.length
 size:m.length≤300
 small:Smalls m
theorem takeSn {α:Type} (l:List α) (x:α):(l++[x]).take (l.length+1)=l++[x]:=List.take_of_length_le (by simp)
theorem take_one {α:Type} (x:α):[x].take 1=[x]:=rfl
end Go.Proofs.YtnakmganodkliaaDoorAm
namespace Go.Proofs.YtnakmganodkliaaDoorAm
open Go
theorem d65s (g:Gr):Con Tryd.prog 36 [] [g.d] (slS (slotsF g)) [] []:=con_frzS rfl (d65 g)
theorem Mi_take (m:List Nat):(Mi m).take m.length=Mi m:=List.take_of_length_le (by rw[Mi_len];omega)
theorem seatCells_len (M:List Nat):∀(cs:List Int) (m:List Nat),(seatCells M cs m).length=m.length
 | [],_=>rfl
 |c::cs,m=>by simp only[seatCells];rw[seatCells_len M cs];simp
theorem seatSlots_len (M:List Nat):∀(ss:List Slt) (m:List Nat),(seatSlots M ss m).length=m.length
 | [],_=>rfl
 |s::ss,m=>by simp only[seatSlots];rw[seatSlots_len M ss,seatCells_len]
theorem seatCells_small {M:List Nat} (hM:Smalls M):∀(cs:List Int) {m:List Nat},Smalls m→Smalls (seatCells M cs m)
 | [],_,h=>h
 |c::cs,m,h=>by
  simp only[seatCells]
  refine seatCells_small hM cs ?_
  intro x hx
  rcases List.mem_or_eq_of_mem_set hx with hx|hx
  ·exact h x hx
  ·rw[hx];exact hM.at _
theorem seatSlots_small {M:List Nat} (hM:Smalls M):∀(ss:List Slt) {m:List Nat},Smalls m→Smalls (seatSlots M ss m)
 | [],_,h=>h
 |s::ss,m,h=>by
  simp only[seatSlots]
  exact seatSlots_small hM ss (seatCells_small hM _ h)
theorem cast_bne0 (a:Nat):((a:Int) !=0)=(a !=0):=by
 apply Bool.eq_iff_iff.2
 simp only[bne_iff_ne,ne_eq]
 omega
theorem leq_small {a b:List Nat} (h:Leq a b) (hb:Smalls b):Smalls a:=by
 intro x hx
 obtain⟨j,hj,e⟩:=List.getElem_of_mem hx
 have h1:a.getD j 0=x:=by rw[List.getD_eq_getElem?_getD,List.getElem?_eq_getElem hj,e];rfl
 rw[←h1]
 exact Nat.lt_of_le_of_lt (sub_le fun i hi=>h j i hi) (hb.at j)
theorem checkP_zero {p:Pr} (h:checkP p=0):checkF p.g=0∧(p.W.length:Int)≤1000∧(∀w∈p.W,1≤w.length∧w.length≤32∧∀c∈w,0≤c∧c<64)∧(p.M.length:Int)=p.g.h*p.g.w:=by
 unfold checkP at h
 by_cases h1:checkF p.g=0
 ·rw[if_pos h1] at h
  by_cases h2:(p.W.length:Int)>1000
  ·rw[if_pos h2] at h;exact absurd h (by decide)
  ·rw[if_neg h2] at h
   cases h3:p.W.any badW with
   |true=>rw[h3,if_pos rfl] at h;exact absurd h (by decide)
   |false=>
    rw[h3] at h
    simp only[Bool.false_eq_true,if_false] at h
    by_cases h4:(p.M.length:Int)=p.g.h*p.g.w
    ·refine⟨h1,by omega,fun w hw=> ?_,h4⟩
     have hb:badW w=false:=by
      cases e:badW w with
      |false=>rfl
      |true=>
       have:p.W.any badW=true:=List.any_eq_true.2 ⟨w,hw,e⟩
       rw[h3] at this;cases this
     unfold badW at hb
     rw[Bool.or_eq_false_iff,Bool.or_eq_false_iff,decide_eq_false_iff_not,decide_eq_false_iff_not] at hb
     refine⟨by omega,by omega,fun c hc=> ?_⟩
     have ho:oddB c=false:=by
      cases e:oddB c with
      |false=>rfl
      |true=>
       have:w.any oddB=true:=List.any_eq_true.2 ⟨c,hc,e⟩
       rw[hb.2] at this;cases this
     unfold oddB at ho
     rw[Bool.or_eq_false_iff,decide_eq_false_iff_not,decide_eq_false_iff_not] at ho
     omega
    ·rw[if_neg h4] at h;exact absurd h (by decide)
 ·rw[if_neg h1] at h;exact absurd h h1
theorem fine_of {g:Gr} {W:List (List Int)} {M:List Nat} (h:checkP ⟨g,W,M⟩=0) (hM:Smalls M):Fine W (slotsF g) M:=by
 obtain⟨h1,h2,h3,h4⟩:=checkP_zero h
 simp only at h1 h2 h3 h4
 have hw:=hw_in (chk0.1 h1).1 (chk0.1 h1).2.1
 have hl:(slotsF g).length≤2*(g.h*g.w).toNat:=by
  unfold slotsF
  rw[if_pos h1]
  exact sl_len g _ 0 0
 refine⟨h2,fun w hw=>(h3 w hw).2.1,by omega,fun s hs=> ?_,by omega,hM⟩
 have hin:=slots_in h1 s hs
 refine⟨?_,fun c hc=>by have:=hin c hc;omega⟩
 unfold slotsF at hs
 rw[if_pos h1] at hs
 have:=(slots_open _ _ _ s hs).1
 omega
end Go.Proofs.YtnakmganodkliaaDoorAm
namespace Go.Proofs.YtnakmganodkliaaDoorAm
open Go
structure LookOk (W:List (List Int)) (m:List Nat) (C L:List Int):Prop where
 mem:∀i∈L,0≤i∧i<W.length∧(wordAt W i).length=C.length∧∀c∈wordAt W i,0≤c∧c<64
 words:W.length≤1000
 long:L.length≤1000
 size:C.length≤300
 cells:∀c∈C,0≤c∧c<m.length
 small:Smalls m
theorem orW_len:∀(w:List Int) (k:Nat) (th:List Nat),(orW k w th).length=th.length
 | [],_,_=>rfl
 |c::w,k,th=>by simp only[orW];rw[orW_len w];simp
theorem orI_cons (W:List (List Int)) (m:List Nat) (C:List Int) (i:Int) (L:List Int) (th:List Nat):orI W m C th (i::L)=orI W m C (if fitL m C (wordAt W i) then orW 0 (wordAt W i) th else th) L:=rfl
theorem orI_len (W:List (List Int)) (m:List Nat) (C:List Int):∀(L:List Int) (th:List Nat),(orI W m C th L).length=th.length
 | [],_=>rfl
 |i::L,th=>by
  rw[orI_cons,orI_len W m C L]
  split
  ·exact orW_len _ _ _
  ·rfl
theorem orI_one (W:List (List Int)) (m:List Nat) (C:List Int) (i:Int) (th:List Nat):orI W m C th [i]=if fitL m C (wordAt W i) then orW 0 (wordAt W i) th else th:=rfl
theorem orI_append (W:List (List Int)) (m:List Nat) (C:List Int) (A B:List Int) (th:List Nat):orI W m C th (A++B)=orI W m C (orI W m C th A) B:=by
 unfold orI
 rw[List.foldl_append]
theorem orW_small:∀(w:List Int) (k:Nat) (th:List Nat),(∀c∈w,0≤c∧c<64)→Smalls th→Smalls (orW k w th)
 | [],_,_,_,h=>h
 |c::w,k,th,hw,h=>by
  simp only[orW]
  refine orW_small w _ _ (fun x hx=>hw x (List.mem_cons_of_mem _ hx)) ?_
  have hc:=hw c List.mem_cons_self
  intro x hx
  rcases List.mem_or_eq_of_mem_set hx with hx|hx
  ·exact h x hx
  ·rw[hx]
   refine or_lt (h.at _) ?_
   unfold bitN
   rw[if_neg (by omega)]
   exact u64_mask (by omega)
theorem orI_small (W:List (List Int)) (m:List Nat) (C:List Int):∀(L:List Int) (th:List Nat),(∀i∈L,∀c∈wordAt W i,0≤c∧c<64)→Smalls th→Smalls (orI W m C th L)
 | [],_,_,h=>h
 |i::L,th,hL,h=>by
  rw[orI_cons]
  refine orI_small W m C L _ (fun x hx=>hL x (List.mem_cons_of_mem _ hx)) ?_
  split
  ·exact orW_small _ _ _ (hL i List.mem_cons_self) h
  ·exact h
theorem keepI_append (W:List (List Int)) (m:List Nat) (C A B:List Int):keepI W m C (A++B)=keepI W m C A++keepI W m C B:=List.filter_append ..
theorem keepI_one (W:List (List Int)) (m:List Nat) (C:List Int) (x:Int):keepI W m C [x]=if fitL m C (wordAt W x) then [x] else []:=by
 unfold keepI
 rw[List.filter_cons]
 rfl
theorem take_set_snoc {α:Type}:∀(xs:List α) (i:Nat) (x:α),i<xs.length→(xs.set i x).take (i+1)=xs.take i++[x]
 | [],i,_,h=>by simp at h
 |a::xs,0,x,_=>by simp
 |a::xs,i+1,x,h=>by
  simp only[List.set_cons_succ,List.take_succ_cons,List.cons_append]
  rw[take_set_snoc xs i x (by simpa using h)]
theorem drop_set_lt {α:Type}:∀(xs:List α) (i j:Nat) (x:α),i<j→(xs.set i x).drop j=xs.drop j
 | [],i,j,x,_=>by simp
 |a::xs,i,0,x,h=>by omega
 |a::xs,0,j+1,x,_=>by simp
 |a::xs,i+1,j+1,x,h=>by
  simp only[List.set_cons_succ,List.drop_succ_cons]
  exact drop_set_lt xs i j x (by omega)
theorem find_facts (f:Int→Bool):∀(L:List Int) (k:Int),0≤k→(findI f k L= -1∧∀x∈L,f x=false)∨∃r:Nat,findI f k L=k+r∧r<L.length∧f (L.getD r 0)=true∧(∀x∈L.take r,f x=false)
 | [],k,_=> .inl ⟨rfl,by simp⟩
 |x::L,k,h=>by
  simp only[findI]
  rcases Bool.eq_false_or_eq_true (f x) with e|e
  ·rw[if_pos e]
   exact .inr ⟨0,by simp,by simp,by simpa using e,by simp⟩
  ·rw[if_neg (by simp[e])]
   rcases find_facts f L (k+1) (by omega) with⟨h1,h2⟩|⟨r,h1,h2,h3,h4⟩
   ·refine .inl ⟨h1,?_⟩
    intro y hy
    rcases List.mem_cons.1 hy with hy|hy
    ·rw[hy];exact e
    ·exact h2 y hy
   ·refine .inr ⟨r+1,by rw[h1];omega,by simpa using h2,by simpa using h3,?_⟩
    intro y hy
    rw[List.take_succ_cons] at hy
    rcases List.mem_cons.1 hy with hy|hy
    ·rw[hy];exact e
    ·exact h4 y hy
theorem takeWhile_all {α:Type} (g:α→Bool):∀(L:List α),(∀x∈L,g x=true)→L.takeWhile g=L
 | [],_=>rfl
 |x::L,h=>by
  rw[List.takeWhile_cons,h x List.mem_cons_self]
  simp only[if_true]
  rw[takeWhile_all g L fun y hy=>h y (List.mem_cons_of_mem _ hy)]
theorem takeWhile_at {α:Type} (g:α→Bool) (d:α):∀(L:List α) (r:Nat),r<L.length→g (L.getD r d)=false→(∀x∈L.take r,g x=true)→L.takeWhile g=L.take r
 | [],r,h,_,_=>by simp at h
 |x::L,0,_,h2,_=>by
  rw[List.takeWhile_cons]
  have h2:g x=false:=by simpa using h2
  rw[h2]
  simp
 |x::L,r+1,h1,h2,h3=>by
  rw[List.takeWhile_cons,h3 x (by rw[List.take_succ_cons];exact List.mem_cons_self)]
  simp only[if_true,List.take_succ_cons]
  rw[takeWhile_at g d L r (by simpa using h1) (by simpa using h2) fun y hy=>h3 y (by rw[List.take_succ_cons];exact List.mem_cons_of_mem _ hy)]
theorem keepI_all {W:List (List Int)} {m:List Nat} {C:List Int}:∀{L:List Int},(∀x∈L,fitL m C (wordAt W x)=true)→keepI W m C L=L
 | [],_=>rfl
 |x::L,h=>by
  rw[show x::L=[x]++L from rfl,keepI_append,keepI_one,if_pos (h x List.mem_cons_self),keepI_all fun y hy=>h y (List.mem_cons_of_mem _ hy)]
theorem keepI_le (W:List (List Int)) (m:List Nat) (C L:List Int):(keepI W m C L).length≤L.length:=List.length_filter_le _ _
theorem bit_and (v:Nat) (hv:v<W64) {x:Int} (h0:0≤x) (h1:x<64):(IntKind.u64.wrap (((BitVec.ofInt 64 (Int.fdiv (v:Int) (2^min x.toNat 64))&&&BitVec.ofInt 64 1).toNat:Nat):Int)==0)= !hasN v x:=by
 have ha:(BitVec.ofInt 64 ((v/2^x.toNat:Nat):Int)&&&BitVec.ofInt 64 1).toNat=(v/2^x.toNat)&&&1:=andU (a:=v/2^x.toNat) (b:=1) (Nat.lt_of_le_of_lt (Nat.div_le_self _ _) hv) (by decide)
 rw[shr1 v h1,ha,has_and h0 h1,Nat.and_one_is_mod]
 have hlt:v/2^x.toNat%2<2:=Nat.mod_lt _ (by omega)
 have hw:IntKind.u64.wrap ((v/2^x.toNat%2:Nat):Int)=((v/2^x.toNat%2:Nat):Int):=wrU (by omega) (by omega)
 rw[hw]
 apply Bool.eq_iff_iff.2
 simp only[beq_iff_eq,Bool.not_eq_true',decide_eq_false_iff_not]
 omega
end Go.Proofs.YtnakmganodkliaaDoorAm
set_option maxRecDepth 100000
namespace Go.Proofs.YtnakmganodkliaaDoorAm
open Go
def vq7 (n:Nat) (w:List Int) (k:Int) (th:List Nat) (G:Nat→St→Prop) (R:D×List (Option Row)×List Row→Prop):Prop:=(decide (k< (↑w.length:Int))=true→(0:Int)≤k∧k< (↑w.length:Int)∧(0:Int)≤k∧k< (↑n:Int)∧0+k.toNat< (Mi th).length∧¬w.getD k.toNat (Ty.int .i64).dflt< (0:Int)∧(0:Int)≤k∧k< (↑n:Int)∧0+k.toNat< (Mi th).length∧SameK (KK n124 1) (KK n124 1)∧G 1 (stOf 60 [3,44,45,46] [D.ptr 0 0 0,D.sl false false (Ty.int .i64) w,D.v (Value.int .i64 (↑w.length:Int)),D.v (Value.int .i64 (IntKind.i64.wrap (k+(1:Int))))] [Slot.live (Row.box 33 [D.own 1 0 n (some n)]),Slot.live (Row.data 22 (Ty.int .u64) ((Mi th).set (0+k.toNat) (IntKind.u64.wrap (↑(BitVec.ofInt 64 ((Mi th).getD (0+k.toNat) (Ty.int .u64).dflt)|||BitVec.ofInt 64 (IntKind.u64.wrap ((1:Int)*(2:Int)^min (Int.toNat (w.getD k.toNat (Ty.int .i64).dflt)) 64))).toNat:Int))))]))∧(decide (k< (↑w.length:Int))=false→R (D.v (Value.bool false),[some (Row.box 33 [D.own 1 0 n (some n)]),some (Row.data 22 (Ty.int .u64) (Mi th))],[]))
theorem e124b (W:List (List Int)) (S:List Slt) (m:List Nat) (C:List Int) (n:Nat) (i:Int) (w:List Int) (hwl:w.length=n) (hn:n≤300) (hw:∀c∈w,0≤c∧c<64) (thE:List Nat) (z:Nat):∀(k:Int) (th:List Nat),0≤k→k+z=w.length→th.length=n→Smalls th→orW k.toNat (w.drop k.toNat) th=thE→GetsK Tryd.prog Tryd.f155.results.toList [none] (KK n124) 2 (.v (.bool false),[some (.box 33 [.own 1 0 n (some n)]),some (.data 22 (.int .u64) (Mi thE))],[]) 1 (stOf 60 [3,44,45,46] [.ptr 0 0 0,slI w,.v (.int .i64 w.length),.v (.int .i64 k)] [.live (.box 33 [.own 1 0 n (some n)]),.live (.data 22 (.int .u64) (Mi th))]):=by
 induction z with
 |zero=>
  intro k th k0 hk hth hts he
  rw[List.drop_eq_nil_of_le (by omega)] at he
  have he:th=thE:=he
  subst he
  refine gets_vc spNa (fun k=> [[0,1,2,3,16,17,18],[3,44,45,46]].getD k []) (fun _=> []) 400 (.fork (.hd 1) .stop) (V:=vq7 n w k th) hmG (fun G R=>by kernel_rfl) ?_
  unfold vq7
  try dsimp only
  simp (disch:=omega) only[oo,oop,ne_eq,Ty.dflt,reduceCtorEq]
  repeat' (first|with_reducible refine And.intro ?_ ?_|intro _)
  all_goals first|rfl|omega|assumption|trivial|exact room3 (by omega)|(exfalso;simp_all;done)|(exfalso;omega)|skip
 |succ z ih=>
  intro k th k0 hk hth hts he
  rw[drop_at (xs:=w) (i:=k) (0:Int) k0 (by omega)] at he
  simp only[orW] at he
  have hc:=hw _ (getD_in (d:=0) (k:=k.toNat) (l:=w) (by omega))
  obtain⟨c,hcc⟩:∃c,w.getD k.toNat 0=c:=⟨_,rfl⟩
  rw[hcc] at he hc
  have hbc:bitN c=2^c.toNat:=if_neg (by omega)
  rw[hbc] at he
  have hk1:IntKind.i64.wrap (k+1)=k+1:=wrG (by omega) (by omega)
  have hstep:=of_step (th.getD k.toNat 0) c hc.1 hc.2 (hts.at _)
  have hsh:=shl1 hc.1 hc.2
  have hx:=ih (k+1) (th.set k.toNat (th.getD k.toNat 0|||2^c.toNat)) (by omega) (by omega) (by rw[List.length_set];exact hth) (by
   intro y hy
   rcases List.mem_or_eq_of_mem_set hy with hy|hy
   ·exact hts y hy
   ·rw[hy];exact or_lt (hts.at _) (u64_mask (by omega))) (by rw[show(k+1).toNat=k.toNat+1 by omega] at he⊢;exact he)
  refine gets_vc spNa (fun k=> [[0,1,2,3,16,17,18],[3,44,45,46]].getD k []) (fun _=> []) 400 (.fork (.hd 1) .stop) (V:=vq7 n w k th) hmG (fun G R=>by kernel_rfl) ?_
  unfold vq7
  try dsimp only
  simp only[Ty.dflt,hk1,hcc,take_len,List.drop_zero,List.take_length,Mi_getD,Mi_len,Nt_Mi,Int.toNat_natCast,Mi_set,Nat.zero_add,Nat.sub_zero,orI_len,orW_len,hsh,hstep]
  simp (disch:=omega) only[oo,oop,ne_eq,Ty.dflt,reduceCtorEq]
  repeat' (first|with_reducible refine And.intro ?_ ?_|intro _)
  all_goals first|rfl|omega|assumption|trivial|exact room3 (by omega)|(exfalso;simp_all;done)|(exfalso;omega)|skip
def vq8 (W:List (List Int)) (S:List Slt) (m:List Nat) (C:List Int) (n:Nat) (i:Int) (w:List Int) (th:List Nat) (k:Int) (G:Nat→St→Prop) (R:D×List (Option Row)×List Row→Prop):Prop:=let yy0:=(IntKind.u64.wrap (↑(BitVec.ofInt 64 (Int.fdiv ((Mi m).getD (Int.toNat (C.getD k.toNat (Ty.int .i64).dflt)) (Ty.int .u64).dflt) ((2:Int)^min (Int.toNat (w.getD k.toNat (Ty.int .i64).dflt)) 64))&&&BitVec.ofInt 64 (1:Int)).toNat:Int)==(0:Int));let yy1:=(Ty.int .i64);let yy2:=(Row.data 22 (Ty.int .u64) (Mi th));(decide (k< (↑w.length:Int))=true→(0:Int)≤k∧k< (↑w.length:Int)∧(0:Int)≤k∧k< (↑C.length:Int)∧(0:Int)≤C.getD k.toNat yy1.dflt∧C.getD k.toNat yy1.dflt< (↑(Mi m).length:Int)∧¬w.getD k.toNat yy1.dflt< (0:Int)∧(yy0=true→R (D.v (Value.bool true),[some (Row.box 33 [D.own 1 0 n (some n)]),some yy2],[]))∧(yy0=false→SameK (KK n124 0) (KK n124 0)∧G 0 (stOf 60 [0,1,2,3,16,17,18] [D.v (Value.int .i64 i),D.rptr [D.rptr [D.sl false false yy1.sl W,D.sl false false (yy1.prod (Ty.bool.prod yy1.sl)) S,D.sl false false (Ty.int .u64) (Mi m),D.top]],D.rptr [D.sl false false yy1 C],D.ptr 0 0 0,D.sl false false yy1 w,D.v (Value.int .i64 (↑w.length:Int)),D.v (Value.int .i64 (IntKind.i64.wrap (k+(1:Int))))] [Slot.live (Row.box 33 [D.own 1 0 n (some n)]),Slot.live yy2])))∧(decide (k< (↑w.length:Int))=false→(0:Int)≤i∧i< (↑W.length:Int)∧SameK (KK n124 1) (KK n124 1)∧G 1 (stOf 60 [3,44,45,46] [D.ptr 0 0 0,D.sl false false yy1 (W.getD i.toNat yy1.sl.dflt),D.v (Value.int .i64 (↑(List.length (W.getD i.toNat yy1.sl.dflt)):Int)),D.v (Value.int .i64 (0:Int))] [Slot.live (Row.box 33 [D.own 1 0 n (some n)]),Slot.live yy2]))
theorem e124a (W:List (List Int)) (S:List Slt) (m:List Nat) (C:List Int) (n:Nat) (i:Int) (w:List Int) (i0:0≤i) (i1:i<W.length) (hwi:W.getD i.toNat []=w) (hwl:w.length=C.length) (hn:C.length=n) (hn3:n≤300) (hw:∀c∈w,0≤c∧c<64) (hC:∀c∈C,0≤c∧c<m.length) (hm:Smalls m) (th:List Nat) (hth:th.length=n) (hts:Smalls th) (z:Nat):∀(k:Int),0≤k→k+z=w.length→∀r,r=((C.drop k.toNat).zip (w.drop k.toNat)).all (fun q=>hasN (m.getD q.1.toNat 0) q.2)→GetsK Tryd.prog Tryd.f155.results.toList [none] (KK n124) 2 (.v (.bool (!r)),[some (.box 33 [.own 1 0 n (some n)]),some (.data 22 (.int .u64) (Mi (if r then orW 0 w th else th)))],[]) 0 (stOf 60 [0,1,2,3,16,17,18] [.v (.int .i64 i),envD W S m,.rptr [slI C],.ptr 0 0 0,slI w,.v (.int .i64 w.length),.v (.int .i64 k)] [.live (.box 33 [.own 1 0 n (some n)]),.live (.data 22 (.int .u64) (Mi th))]):=by
 induction z with
 |zero=>
  intro k k0 hk r hr
  rw[List.drop_eq_nil_of_le (by omega)] at hr
  have hr:r=true:=by rw[hr];rfl
  subst hr
  have hx:=e124b W S m C n i w (by omega) hn3 hw (orW 0 w th) w.length 0 th (by omega) (by omega) hth hts rfl
  refine gets_vc spNa (fun k=> [[0,1,2,3,16,17,18],[3,44,45,46]].getD k []) (fun _=> []) 400 (.fork (.fork .stop (.hd 0)) (.hd 1)) (V:=vq8 W S m C n i w th k) hmG (fun G R=>by kernel_rfl) ?_
  unfold vq8
  try dsimp only
  simp only[Ty.dflt,hwi,Bool.not_true,if_true]
  simp (disch:=omega) only[oo,oop,ne_eq,Ty.dflt,reduceCtorEq]
  repeat' (first|with_reducible refine And.intro ?_ ?_|intro _)
  all_goals first|rfl|omega|assumption|trivial|exact room3 (by omega)|(exfalso;simp_all;done)|(exfalso;omega)|skip
 |succ z ih=>
  intro k k0 hk r hr
  rw[drop_at (xs:=C) (i:=k) (0:Int) k0 (by omega),drop_at (xs:=w) (i:=k) (0:Int) k0 (by omega)] at hr
  simp only[List.zip_cons_cons,List.all_cons] at hr
  have hk1:IntKind.i64.wrap (k+1)=k+1:=wrG (by omega) (by omega)
  have hx:=ih (k+1) (by omega) (by omega) _ rfl
  have hc:=hC (C.getD k.toNat 0) (getD_in (by omega))
  have hl:=hw (w.getD k.toNat 0) (getD_in (by omega))
  have hb:=bit_and (m.getD (C.getD k.toNat 0).toNat 0) (hm.at _) hl.1 hl.2
  refine gets_vc spNa (fun k=> [[0,1,2,3,16,17,18],[3,44,45,46]].getD k []) (fun _=> []) 400 (.fork (.fork .stop (.hd 0)) (.hd 1)) (V:=vq8 W S m C n i w th k) hmG (fun G R=>by kernel_rfl) ?_
  unfold vq8
  try dsimp only
  simp only[Ty.dflt,hk1,take_len,List.drop_zero,List.take_length,Mi_getD,Mi_len,Nt_Mi,Int.toNat_natCast,Mi_set,Nat.zero_add,Nat.sub_zero,orI_len,orW_len,hb]
  cases ho:hasN (m.getD (C.getD k.toNat 0).toNat 0) (w.getD k.toNat 0)<;>rw[ho] at hr<;>simp only[Bool.true_and,Bool.false_and] at hr<;>subst hr<;>simp only[Bool.not_false,Bool.not_true]
  all_goals simp (disch:=omega) only[oo,oop,ne_eq,Ty.dflt,reduceCtorEq];repeat' (first|with_reducible refine And.intro ?_ ?_|intro _)
  all_goals first|rfl|omega|assumption|trivial|exact room3 (by omega)|(exfalso;simp_all;done)|(exfalso;omega)|skip
theorem d124 (W:List (List Int)) (S:List Slt) (m:List Nat) (C:List Int) (n:Nat) (th:List Nat) (i:Int) (i0:0≤i) (i1:i<W.length) (hwl:(wordAt W i).length=C.length) (hn:C.length=n) (hn3:n≤300) (hw:∀c∈wordAt W i,0≤c∧c<64) (hC:∀c∈C,0≤c∧c<m.length) (hm:Smalls m) (hth:th.length=n) (hts:Smalls th):Con Tryd.prog 155 [.box 33 [.own 1 0 n (some n)],.data 22 (.int .u64) (Mi th)] [.v (.int .i64 i),envD W S m,.rptr [slI C],.ptr 0 0 0] (.v (.bool (!fitL m C (wordAt W i)))) [some (.box 33 [.own 1 0 n (some n)]),some (.data 22 (.int .u64) (Mi (orI W m C th [i])))] []:=by
 refine con_vc (how:=[none]) (c:=n124) (K:=(KK n124)) spNa (fun k=> [[0,1,2,3,16,17,18],[3,44,45,46]].getD k []) (fun _=> []) 400 (.hd 0) (V:=fun G R=>let yy0:=(Ty.int .i64);(0:Int)≤i∧i< (↑W.length:Int)∧SameK (KK n124 0) (KK n124 0)∧G 0 (stOf 60 [0,1,2,3,16,17,18] [D.v (Value.int .i64 i),D.rptr [D.rptr [D.sl false false yy0.sl W,D.sl false false (yy0.prod (Ty.bool.prod yy0.sl)) S,D.sl false false (Ty.int .u64) (Mi m),D.top]],D.rptr [D.sl false false yy0 C],D.ptr 0 0 0,D.sl false false yy0 (W.getD i.toNat yy0.sl.dflt),D.v (Value.int .i64 (↑(List.length (W.getD i.toNat yy0.sl.dflt)):Int)),D.v (Value.int .i64 (0:Int))] [Slot.live (Row.box 33 [D.own 1 0 n (some n)]),Slot.live (Row.data 22 (Ty.int .u64) (Mi th))])) hmG Tryd.func155 (by kernel_rfl) (by kernel_rfl) (fun G R=>by kernel_rfl) ?_
 try dsimp only
 try dsimp only
 obtain⟨w,hwi⟩:∃w,W.getD i.toNat []=w:=⟨_,rfl⟩
 rw[orI_one]
 unfold wordAt at hwl hw⊢
 rw[hwi] at hwl hw⊢
 have e:fitL m C w=(C.zip w).all (fun q=>hasN (m.getD q.1.toNat 0) q.2):=by
  unfold fitL
  rw[hwl,beq_self_eq_true,Bool.true_and]
 have hx:=e124a W S m C n i w i0 i1 hwi hwl hn hn3 hw hC hm th hth hts w.length 0 (by omega) (by omega) (fitL m C w) (by rw[e];rfl)
 simp only[Ty.dflt,hwi]
 simp (disch:=omega) only[oo,oop,ne_eq,Ty.dflt,reduceCtorEq]
 repeat' (first|with_reducible refine And.intro ?_ ?_|intro _)
 all_goals first|rfl|omega|assumption|trivial|exact room3 (by omega)|(exfalso;simp_all;done)|(exfalso;omega)|skip
theorem e128t (W:List (List Int)) (S:List Slt) (m:List Nat) (C:List Int) (n:Nat) (L:List Int) (hn:C.length=n) (F:LookOk W m C L) (z:Nat):∀(k:Int) (th:List Nat),0≤k→k+z=L.length→th.length=n→Smalls th→∀r thE,r=findI (fun i=> !fitL m C (wordAt W i)) k (L.drop k.toNat)→thE=orI W m C th ((L.drop k.toNat).takeWhile fun i=>fitL m C (wordAt W i))→GetsK Tryd.prog Tryd.f138.results.toList [none] (KK n128) 2 (.v (.int .i64 r),[some (.box 33 [.own 1 0 n (some n)]),some (.data 22 (.int .u64) (Mi thE))],[]) 0 (stOf 19 [0,1,7,8] [slI L,.fn 155 [envD W S m,.rptr [slI C],.ptr 0 0 0],.v (.int .i64 L.length),.v (.int .i64 k)] [.live (.box 33 [.own 1 0 n (some n)]),.live (.data 22 (.int .u64) (Mi th))]):=by
 have hL:=F.long
 have hsz:=F.size
 induction z with
 |zero=>
  intro k th k0 hk hth hts r thE hr he
  rw[List.drop_eq_nil_of_le (by omega)] at hr he
  have hr:r= -1:=hr
  have he:thE=th:=he
  subst hr;subst he
  refine gets_vc spNa (fun k=> [0,1,7,8]) (fun _=> []) 400 (.fork (.fork .stop (.hd 0)) .stop) (V:=fun G R=>let yy0:=(Ty.int .i64);let yy1:=(Row.data 22 (Ty.int .u64) (Mi (orI W (Nt (Mi m)) C (Nt (Mi thE)) [L.getD k.toNat yy0.dflt])));let yy2:=(Row.box 33 [D.own 1 0 n (some n)]);let yy3:=(L.getD k.toNat yy0.dflt);let yy4:=(Ty.int .u64);(decide (k< (↑L.length:Int))=true→(0:Int)≤k∧k< (↑L.length:Int)∧Con Tryd.prog 155 [Row.box 33 [D.own 1 0 n (some n)],Row.data 22 yy4 (Mi (Nt (Mi thE)))] [D.v (Value.int .i64 yy3),D.rptr [D.rptr [D.sl false false yy0.sl W,D.sl false false (yy0.prod (Ty.bool.prod yy0.sl)) S,D.sl false false yy4 (Mi (Nt (Mi m))),D.top]],D.rptr [D.sl false false yy0 C],D.ptr 0 0 0] (D.v (Value.bool !fitL (Nt (Mi m)) C (wordAt W yy3))) [some yy2,some yy1] []∧Value.int .i64 yy3=Value.int .i64 yy3∧W=W∧S=S∧Mi m=Mi (Nt (Mi m))∧C=C∧0=0∧0=0∧0=0∧(Mi (orI W (Nt (Mi m)) C (Nt (Mi thE)) [L.getD k.toNat yy0.dflt])).length=(Mi (Nt (Mi thE))).length∧some yy2=some yy2∧some (Row.data 22 yy4 (Mi thE))=some (Row.data 22 yy4 (Mi (Nt (Mi thE))))∧((!fitL (Nt (Mi m)) C (wordAt W yy3))=true→R (D.v (Value.int .i64 k),[some yy2,some yy1],[]))∧((!fitL (Nt (Mi m)) C (wordAt W yy3))=false→SameK (KK n128 0) (KK n128 0)∧G 0 (stOf 19 [0,1,7,8] [D.sl false false yy0 L,D.fn 155 [D.rptr [D.rptr [D.sl false false yy0.sl W,D.sl false false (yy0.prod (Ty.bool.prod yy0.sl)) S,D.sl false false yy4 (Mi m),D.top]],D.rptr [D.sl false false yy0 C],D.ptr 0 0 0],D.v (Value.int .i64 (↑L.length:Int)),D.v (Value.int .i64 (IntKind.i64.wrap (k+(1:Int))))] [Slot.live yy2,Slot.live yy1])))∧(decide (k< (↑L.length:Int))=false→R (D.v (Value.int .i64 (-1:Int)),[some yy2,some (Row.data 22 yy4 (Mi thE))],[]))) hmG (fun G R=>by kernel_rfl) ?_
  try dsimp only
  simp (disch:=omega) only[oo,oop,ne_eq,Ty.dflt,reduceCtorEq]
  repeat' (first|with_reducible refine And.intro ?_ ?_|intro _)
  all_goals first|rfl|omega|assumption|trivial|exact room3 (by omega)|(exfalso;simp_all;done)|(exfalso;omega)|skip
 |succ z ih=>
  intro k th k0 hk hth hts r thE hr he
  rw[drop_at (xs:=L) (i:=k) (0:Int) k0 (by omega)] at hr he
  have hi:=F.mem _ (getD_in (d:=0) (k:=k.toNat) (l:=L) (by omega))
  obtain⟨i,hii⟩:∃i,L.getD k.toNat 0=i:=⟨_,rfl⟩
  rw[hii] at hr he hi
  have c1:=d124 W S m C n th i hi.1 hi.2.1 hi.2.2.1 hn (by omega) hi.2.2.2 F.cells F.small hth hts
  have hk1:IntKind.i64.wrap (k+1)=k+1:=wrG (by omega) (by omega)
  simp only[findI,List.takeWhile_cons] at hr he
  have hx:=ih (k+1) (orI W m C th [i]) (by omega) (by omega) (by rw[orI_len];exact hth) (orI_small W m C [i] th (fun x hx=>by rw[List.mem_singleton.1 hx];exact hi.2.2.2) hts) _ _ rfl rfl
  refine gets_vc spNa (fun k=> [0,1,7,8]) (fun _=> []) 400 (.fork (.fork .stop (.hd 0)) .stop) (V:=fun G R=>let yy0:=(Ty.int .i64);let yy1:=(Row.data 22 (Ty.int .u64) (Mi (orI W (Nt (Mi m)) C (Nt (Mi th)) [L.getD k.toNat yy0.dflt])));let yy2:=(Row.box 33 [D.own 1 0 n (some n)]);let yy3:=(L.getD k.toNat yy0.dflt);let yy4:=(Ty.int .u64);(decide (k< (↑L.length:Int))=true→(0:Int)≤k∧k< (↑L.length:Int)∧Con Tryd.prog 155 [Row.box 33 [D.own 1 0 n (some n)],Row.data 22 yy4 (Mi (Nt (Mi th)))] [D.v (Value.int .i64 yy3),D.rptr [D.rptr [D.sl false false yy0.sl W,D.sl false false (yy0.prod (Ty.bool.prod yy0.sl)) S,D.sl false false yy4 (Mi (Nt (Mi m))),D.top]],D.rptr [D.sl false false yy0 C],D.ptr 0 0 0] (D.v (Value.bool !fitL (Nt (Mi m)) C (wordAt W yy3))) [some yy2,some yy1] []∧Value.int .i64 yy3=Value.int .i64 yy3∧W=W∧S=S∧Mi m=Mi (Nt (Mi m))∧C=C∧0=0∧0=0∧0=0∧(Mi (orI W (Nt (Mi m)) C (Nt (Mi th)) [L.getD k.toNat yy0.dflt])).length=(Mi (Nt (Mi th))).length∧some yy2=some yy2∧some (Row.data 22 yy4 (Mi th))=some (Row.data 22 yy4 (Mi (Nt (Mi th))))∧((!fitL (Nt (Mi m)) C (wordAt W yy3))=true→R (D.v (Value.int .i64 k),[some yy2,some yy1],[]))∧((!fitL (Nt (Mi m)) C (wordAt W yy3))=false→SameK (KK n128 0) (KK n128 0)∧G 0 (stOf 19 [0,1,7,8] [D.sl false false yy0 L,D.fn 155 [D.rptr [D.rptr [D.sl false false yy0.sl W,D.sl false false (yy0.prod (Ty.bool.prod yy0.sl)) S,D.sl false false yy4 (Mi m),D.top]],D.rptr [D.sl false false yy0 C],D.ptr 0 0 0],D.v (Value.int .i64 (↑L.length:Int)),D.v (Value.int .i64 (IntKind.i64.wrap (k+(1:Int))))] [Slot.live yy2,Slot.live yy1])))∧(decide (k< (↑L.length:Int))=false→R (D.v (Value.int .i64 (-1:Int)),[some yy2,some (Row.data 22 yy4 (Mi th))],[]))) hmG (fun G R=>by kernel_rfl) ?_
  try dsimp only
  simp only[Ty.dflt,hk1,hii,take_len,List.drop_zero,List.take_length,Mi_getD,Mi_len,Nt_Mi,Int.toNat_natCast,Mi_set,Nat.zero_add,Nat.sub_zero,orI_len,orW_len]
  rcases Bool.eq_false_or_eq_true (fitL m C (wordAt W i)) with h|h
  ·simp only[Bool.not_true,Bool.false_eq_true,if_false,if_true,orI_cons,h] at hr he
   rw[←hr] at hx
   simp only[orI_one,h,if_true,Bool.not_true] at hx c1
   rw[←he] at hx
   simp only[h,orI_one,Bool.not_true,if_true]
   simp (disch:=omega) only[oo,oop,ne_eq,Ty.dflt,reduceCtorEq]
   repeat' (first|with_reducible refine And.intro ?_ ?_|intro _)
   all_goals first|rfl|omega|assumption|trivial|exact room3 (by omega)|(exfalso;simp_all;done)|(exfalso;omega)|skip
  ·simp only[h,Bool.not_false,if_true,Bool.false_eq_true,if_false] at hr he
   have he:thE=th:=he
   simp only[orI_one,h,Bool.false_eq_true,if_false,Bool.not_false] at c1
   subst hr;subst he
   simp only[h,orI_one,Bool.not_false,Bool.false_eq_true,if_false]
   simp (disch:=omega) only[oo,oop,ne_eq,Ty.dflt,reduceCtorEq]
   repeat' (first|with_reducible refine And.intro ?_ ?_|intro _)
   all_goals first|rfl|omega|assumption|trivial|exact room3 (by omega)|(exfalso;simp_all;done)|(exfalso;omega)|skip
theorem d128t (W:List (List Int)) (S:List Slt) (m:List Nat) (C:List Int) (n:Nat) (L:List Int) (th:List Nat) (hn:C.length=n) (F:LookOk W m C L) (hth:th.length=n) (hts:Smalls th):Con Tryd.prog 138 [.box 33 [.own 1 0 n (some n)],.data 22 (.int .u64) (Mi th)] [slI L,.fn 155 [envD W S m,.rptr [slI C],.ptr 0 0 0]] (.v (.int .i64 (findI (fun i=> !fitL m C (wordAt W i)) 0 L))) [some (.box 33 [.own 1 0 n (some n)]),some (.data 22 (.int .u64) (Mi (orI W m C th (L.takeWhile fun i=>fitL m C (wordAt W i)))))] []:=by
 refine con_vc (how:=[none]) (c:=n128) (K:=(KK n128)) spNa (fun k=> [0,1,7,8]) (fun _=> []) 400 (.hd 0) (V:=fun G R=>let yy0:=(Ty.int .i64);SameK (KK n128 0) (KK n128 0)∧G 0 (stOf 19 [0,1,7,8] [D.sl false false yy0 L,D.fn 155 [D.rptr [D.rptr [D.sl false false yy0.sl W,D.sl false false (yy0.prod (Ty.bool.prod yy0.sl)) S,D.sl false false (Ty.int .u64) (Mi m),D.top]],D.rptr [D.sl false false yy0 C],D.ptr 0 0 0],D.v (Value.int .i64 (↑L.length:Int)),D.v (Value.int .i64 (0:Int))] [Slot.live (Row.box 33 [D.own 1 0 n (some n)]),Slot.live (Row.data 22 (Ty.int .u64) (Mi th))])) hmG Tryd.func138 (by kernel_rfl) (by kernel_rfl) (fun G R=>by kernel_rfl) ?_
 try dsimp only
 try dsimp only
 have hx:=e128t W S m C n L hn F L.length 0 th (by omega) (by omega) hth hts _ _ rfl rfl
 simp only[show(0:Int).toNat=0 by rfl,List.drop_zero] at hx
 simp (disch:=omega) only[oo,oop,ne_eq,Ty.dflt,reduceCtorEq]
 repeat' (first|with_reducible refine And.intro ?_ ?_|intro _)
 all_goals first|rfl|omega|assumption|trivial|exact room3 (by omega)|(exfalso;simp_all;done)|(exfalso;omega)|skip
def vq9 (W:List (List Int)) (S:List Slt) (m:List Nat) (C:List Int) (n:Nat) (L:List Int) (j:Int) (i:Int) (xs:List Int) (th:List Nat) (G:Nat→St→Prop) (R:D×List (Option Row)×List Row→Prop):Prop:=let yy0:=(Ty.int .i64);let yy1:=(Row.data 22 (Ty.int .u64) (Mi (orI W (Nt (Mi m)) C (Nt (Mi th)) [xs.getD (0+j.toNat) yy0.dflt])));let yy2:=(xs.getD (0+j.toNat) yy0.dflt);let yy3:=(List.take (0+i.toNat) xs++List.replicate ((↑L.length:Int).toNat-i.toNat) (0:Int)++List.drop (0+i.toNat+((↑L.length:Int).toNat-i.toNat)) xs);let yy4:=(Row.box 33 [D.own 2 0 n (some n)]);let yy5:=(Ty.int .u64);let yy6:=(↑L.length:Int);(decide (j<yy6)=true→(0:Int)≤j∧j<yy6∧0+j.toNat<xs.length∧Con Tryd.prog 155 [Row.box 33 [D.own 1 0 n (some n)],Row.data 22 yy5 (Mi (Nt (Mi th)))] [D.v (Value.int .i64 yy2),D.rptr [D.rptr [D.sl false false yy0.sl W,D.sl false false (yy0.prod (Ty.bool.prod yy0.sl)) S,D.sl false false yy5 (Mi (Nt (Mi m))),D.top]],D.rptr [D.sl false false yy0 C],D.ptr 0 0 0] (D.v (Value.bool !fitL (Nt (Mi m)) C (wordAt W yy2))) [some (Row.box 33 [D.own 1 0 n (some n)]),some yy1] []∧Value.int .i64 yy2=Value.int .i64 yy2∧W=W∧S=S∧Mi m=Mi (Nt (Mi m))∧C=C∧1=1∧0=0∧0=0∧(Mi (orI W (Nt (Mi m)) C (Nt (Mi th)) [xs.getD (0+j.toNat) yy0.dflt])).length=(Mi (Nt (Mi th))).length∧some yy4=some yy4∧some (Row.data 22 yy5 (Mi th))=some (Row.data 22 yy5 (Mi (Nt (Mi th))))∧((!!fitL (Nt (Mi m)) C (wordAt W yy2))=true→(0:Int)≤i∧i<yy6∧0+i.toNat<xs.length∧SameK (KK n123 0) (KK n123 0)∧G 0 (stOf 42 [0,1,5,6] [D.own 0 0 L.length none,D.fn 155 [D.rptr [D.rptr [D.sl false false yy0.sl W,D.sl false false (yy0.prod (Ty.bool.prod yy0.sl)) S,D.sl false false yy5 (Mi m),D.top]],D.rptr [D.sl false false yy0 C],D.ptr 1 0 0],D.v (Value.int .i64 (IntKind.i64.wrap (i+(1:Int)))),D.v (Value.int .i64 (IntKind.i64.wrap (j+(1:Int))))] [Slot.live (Row.data 3 yy0 (xs.set (0+i.toNat) yy2)),Slot.live yy4,Slot.live yy1]))∧((!!fitL (Nt (Mi m)) C (wordAt W yy2))=false→SameK (KK n123 0) (KK n123 0)∧G 0 (stOf 42 [0,1,5,6] [D.own 0 0 L.length none,D.fn 155 [D.rptr [D.rptr [D.sl false false yy0.sl W,D.sl false false (yy0.prod (Ty.bool.prod yy0.sl)) S,D.sl false false yy5 (Mi m),D.top]],D.rptr [D.sl false false yy0 C],D.ptr 1 0 0],D.v (Value.int .i64 i),D.v (Value.int .i64 (IntKind.i64.wrap (j+(1:Int))))] [Slot.live (Row.data 3 yy0 xs),Slot.live yy4,Slot.live yy1])))∧(decide (j<yy6)=false→(0:Int)≤i∧i≤yy6∧yy6≤(↑(xs.length-0):Int)∧(0:Int)≤(0:Int)∧(0:Int)≤i∧i≤(↑(yy3.length-0):Int)∧R (D.own 0 0 (i.toNat-0) none,[some (Row.data 3 yy0 yy3),some yy4,some (Row.data 22 yy5 (Mi th))],[]))
theorem e123 (W:List (List Int)) (S:List Slt) (m:List Nat) (C:List Int) (n:Nat) (L:List Int) (hn:C.length=n) (F:LookOk W m C L) (th0:List Nat) (ht0:th0.length=n) (hs0:Smalls th0) (z:Nat):∀(j i:Int) (xs:List Int) (th:List Nat),0≤j→j+z=L.length→xs.length=L.length→xs.drop j.toNat=L.drop j.toNat→xs.take i.toNat=keepI W m C (L.take j.toNat)→th=orI W m C th0 (L.take j.toNat)→i=((keepI W m C (L.take j.toNat)).length:Int)→GetsK Tryd.prog Tryd.f154.results.toList [none] (KK n123) 3 (.own 0 0 (keepI W m C L).length none,[some (.data 3 (.int .i64) (keepI W m C L++List.replicate (L.length-(keepI W m C L).length) 0)),some (.box 33 [.own 2 0 n (some n)]),some (.data 22 (.int .u64) (Mi (orI W m C th0 L)))],[]) 0 (stOf 42 [0,1,5,6] [.own 0 0 L.length none,.fn 155 [envD W S m,.rptr [slI C],.ptr 1 0 0],.v (.int .i64 i),.v (.int .i64 j)] [.live (.data 3 (.int .i64) xs),.live (.box 33 [.own 2 0 n (some n)]),.live (.data 22 (.int .u64) (Mi th))]):=by
 have hL:=F.long
 have hsz:=F.size
 induction z with
 |zero=>
  intro j i xs th j0 hj hxl hdr htk hth hi
  have e0:L.take j.toNat=L:=List.take_of_length_le (by omega)
  rw[e0] at htk hth hi
  have hkl:=keepI_le W m C L
  have hin:i.toNat=(keepI W m C L).length:=by omega
  have e:List.take i.toNat xs++List.replicate (L.length-i.toNat) 0++List.drop (i.toNat+(L.length-i.toNat)) xs=keepI W m C L++List.replicate (L.length-(keepI W m C L).length) 0:=by
   rw[List.drop_eq_nil_of_le (by omega),List.append_nil,htk,hin]
  have el:(keepI W m C L++List.replicate (L.length-(keepI W m C L).length) 0).length=L.length:=by
   rw[List.length_append,List.length_replicate]
   omega
  refine gets_vc spNa (fun k=> [0,1,5,6]) (fun _=> []) 400 (.fork (.fork (.hd 0) (.hd 0)) .stop) (V:=vq9 W S m C n L j i xs th) hmG (fun G R=>by kernel_rfl) ?_
  unfold vq9
  try dsimp only
  simp only[take_len,List.drop_zero,List.take_length,Mi_getD,Mi_len,Nt_Mi,Int.toNat_natCast,Mi_set,Nat.zero_add,Nat.sub_zero,orI_len,orW_len,e,el,hxl]
  rw[hin,hth]
  simp (disch:=omega) only[oo,oop,ne_eq,Ty.dflt,reduceCtorEq]
  repeat' (first|with_reducible refine And.intro ?_ ?_|intro _)
  all_goals first|rfl|omega|assumption|trivial|exact room3 (by omega)|(exfalso;simp_all;done)|(exfalso;omega)|skip
 |succ z ih=>
  intro j i xs th j0 hj hxl hdr htk hth hi
  have hx0:=drop_at (xs:=xs) (i:=j) (0:Int) j0 (by omega)
  have hl0:=drop_at (xs:=L) (i:=j) (0:Int) j0 (by omega)
  rw[hdr,hl0] at hx0
  rw[List.cons.injEq] at hx0
  have ht:=take_succ_at (0:Int) L j0 (by omega)
  have hmem:=F.mem _ (getD_in (d:=0) (k:=j.toNat) (l:=L) (by omega))
  obtain⟨v,hv⟩:∃v,L.getD j.toNat 0=v:=⟨_,rfl⟩
  have hxv:xs.getD j.toNat 0=v:=by rw[←hx0.1,hv]
  rw[hv] at ht hmem
  have hkl:=keepI_le W m C (L.take j.toNat)
  have htl:(L.take j.toNat).length=j.toNat:=by rw[List.length_take];omega
  rw[htl] at hkl
  have hlen:th.length=n:=by rw[hth,orI_len];exact ht0
  have hsm:Smalls th:=by
   rw[hth]
   exact orI_small W m C _ th0 (fun x hx=>(F.mem x (List.mem_of_mem_take hx)).2.2.2) hs0
  have c1:=d124 W S m C n th v hmem.1 hmem.2.1 hmem.2.2.1 hn (by omega) hmem.2.2.2 F.cells F.small hlen hsm
  have hj1:IntKind.i64.wrap (j+1)=j+1:=wrG (by omega) (by omega)
  have hi1:IntKind.i64.wrap (i+1)=i+1:=wrG (by omega) (by omega)
  rcases Bool.eq_false_or_eq_true (fitL m C (wordAt W v)) with h|h
  ·have hk:keepI W m C (L.take (j+1).toNat)=keepI W m C (L.take j.toNat)++[v]:=by rw[ht,keepI_append,keepI_one,if_pos h]
   have hx:=ih (j+1) (i+1) (xs.set i.toNat v) (orW 0 (wordAt W v) th) (by omega) (by omega) (by rw[List.length_set];exact hxl)
    (by rw[drop_set_lt _ _ _ _ (by omega),hx0.2])
    (by rw[show(i+1).toNat=i.toNat+1 by omega,take_set_snoc _ _ _ (by omega),hk,htk])
    (by rw[ht,orI_append,←hth,orI_one,if_pos h])
    (by rw[hk,List.length_append,List.length_cons,List.length_nil];omega)
   rw[orI_one,if_pos h,h] at c1
   refine gets_vc spNa (fun k=> [0,1,5,6]) (fun _=> []) 400 (.fork (.fork (.hd 0) (.hd 0)) .stop) (V:=vq9 W S m C n L j i xs th) hmG (fun G R=>by kernel_rfl) ?_
   unfold vq9
   try dsimp only
   simp only[Ty.dflt,hj1,hi1,take_len,List.drop_zero,List.take_length,Mi_getD,Mi_len,Nt_Mi,Int.toNat_natCast,Mi_set,Nat.zero_add,Nat.sub_zero,orI_len,orW_len,hxv,h,orI_one,if_true,Bool.not_true,Bool.not_false]
   simp (disch:=omega) only[oo,oop,ne_eq,Ty.dflt,reduceCtorEq]
   repeat' (first|with_reducible refine And.intro ?_ ?_|intro _)
   all_goals first|rfl|omega|assumption|trivial|exact room3 (by omega)|(exfalso;simp_all;done)|(exfalso;omega)|skip
  ·have hk:keepI W m C (L.take (j+1).toNat)=keepI W m C (L.take j.toNat):=by rw[ht,keepI_append,keepI_one,if_neg (by rw[h];exact Bool.false_ne_true),List.append_nil]
   have hx:=ih (j+1) i xs th (by omega) (by omega) hxl hx0.2.symm (by rw[hk];exact htk) (by rw[ht,orI_append,←hth,orI_one,if_neg (by rw[h];exact Bool.false_ne_true)]) (by rw[hk];exact hi)
   rw[orI_one,if_neg (by rw[h];exact Bool.false_ne_true),h] at c1
   refine gets_vc spNa (fun k=> [0,1,5,6]) (fun _=> []) 400 (.fork (.fork (.hd 0) (.hd 0)) .stop) (V:=vq9 W S m C n L j i xs th) hmG (fun G R=>by kernel_rfl) ?_
   unfold vq9
   try dsimp only
   simp only[Ty.dflt,hj1,hi1,take_len,List.drop_zero,List.take_length,Mi_getD,Mi_len,Nt_Mi,Int.toNat_natCast,Mi_set,Nat.zero_add,Nat.sub_zero,orI_len,orW_len,hxv,h,orI_one,Bool.false_eq_true,if_false,Bool.not_true,Bool.not_false]
   simp (disch:=omega) only[oo,oop,ne_eq,Ty.dflt,reduceCtorEq]
   repeat' (first|with_reducible refine And.intro ?_ ?_|intro _)
   all_goals first|rfl|omega|assumption|trivial|exact room3 (by omega)|(exfalso;simp_all;done)|(exfalso;omega)|skip
theorem d123 (W:List (List Int)) (S:List Slt) (m:List Nat) (C:List Int) (n:Nat) (L:List Int) (th:List Nat) (hn:C.length=n) (F:LookOk W m C L) (hth:th.length=n) (hts:Smalls th):Con Tryd.prog 154 [.data 3 (.int .i64) L,.box 33 [.own 2 0 n (some n)],.data 22 (.int .u64) (Mi th)] [.own 0 0 L.length none,.fn 155 [envD W S m,.rptr [slI C],.ptr 1 0 0]] (.own 0 0 (keepI W m C L).length none) [some (.data 3 (.int .i64) (keepI W m C L++List.replicate (L.length-(keepI W m C L).length) 0)),some (.box 33 [.own 2 0 n (some n)]),some (.data 22 (.int .u64) (Mi (orI W m C th L)))] []:=by
 refine con_vc (how:=[none]) (c:=n123) (K:=(KK n123)) spNa (fun k=> [0,1,5,6]) (fun _=> []) 400 (.fork .stop (.hd 0)) (V:=fun G R=>let yy0:=(List.take L.length (List.drop 0 L));let yy1:=(Ty.int .i64);let yy2:=(Ty.int .u64);let yy3:=(Row.box 33 [D.own 2 0 n (some n)]);Con Tryd.prog 138 [Row.box 33 [D.own 1 0 n (some n)],Row.data 22 yy2 (Mi (Nt (Mi th)))] [D.sl false false yy1 yy0,D.fn 155 [D.rptr [D.rptr [D.sl false false yy1.sl W,D.sl false false (yy1.prod (Ty.bool.prod yy1.sl)) S,D.sl false false yy2 (Mi (Nt (Mi m))),D.top]],D.rptr [D.sl false false yy1 C],D.ptr 0 0 0]] (D.v (Value.int .i64 (findI (fun i=> !fitL (Nt (Mi m)) C (wordAt W i)) (0:Int) yy0))) [some (Row.box 33 [D.own 1 0 n (some n)]),some (Row.data 22 yy2 (Mi (orI W (Nt (Mi m)) C (Nt (Mi th)) (List.takeWhile (fun i=>fitL (Nt (Mi m)) C (wordAt W i)) yy0))))] []∧List.take L.length (List.drop 0 L)=List.take L.length (List.drop 0 L)∧W=W∧S=S∧Mi m=Mi (Nt (Mi m))∧C=C∧1=1∧0=0∧0=0∧(Mi (orI W (Nt (Mi m)) C (Nt (Mi th)) (List.takeWhile (fun i=>fitL (Nt (Mi m)) C (wordAt W i)) yy0))).length=(Mi (Nt (Mi th))).length∧some yy3=some yy3∧some (Row.data 22 yy2 (Mi th))=some (Row.data 22 yy2 (Mi (Nt (Mi th))))∧((findI (fun i=> !fitL (Nt (Mi m)) C (wordAt W i)) (0:Int) yy0==(-1:Int))=true→R (D.own 0 0 L.length none,[some (Row.data 3 yy1 L),some yy3,some (Row.data 22 yy2 (Mi (orI W (Nt (Mi m)) C (Nt (Mi th)) (List.takeWhile (fun i=>fitL (Nt (Mi m)) C (wordAt W i)) yy0))))],[]))∧((findI (fun i=> !fitL (Nt (Mi m)) C (wordAt W i)) (0:Int) yy0==(-1:Int))=false→SameK (KK n123 0) (KK n123 0)∧G 0 (stOf 42 [0,1,5,6] [D.own 0 0 L.length none,D.fn 155 [D.rptr [D.rptr [D.sl false false yy1.sl W,D.sl false false (yy1.prod (Ty.bool.prod yy1.sl)) S,D.sl false false yy2 (Mi m),D.top]],D.rptr [D.sl false false yy1 C],D.ptr 1 0 0],D.v (Value.int .i64 (findI (fun i=> !fitL (Nt (Mi m)) C (wordAt W i)) (0:Int) yy0)),D.v (Value.int .i64 (IntKind.i64.wrap (findI (fun i=> !fitL (Nt (Mi m)) C (wordAt W i)) (0:Int) yy0+(1:Int))))] [Slot.live (Row.data 3 yy1 L),Slot.live yy3,Slot.live (Row.data 22 yy2 (Mi (orI W (Nt (Mi m)) C (Nt (Mi th)) (List.takeWhile (fun i=>fitL (Nt (Mi m)) C (wordAt W i)) yy0))))]))) hmG Tryd.func154 (by kernel_rfl) (by kernel_rfl) (fun G R=>by kernel_rfl) ?_
 try dsimp only
 try dsimp only
 have hL:=F.long
 have c1:=d128t W S m C n L th hn F hth hts
 simp only[take_len,List.drop_zero,List.take_length,Mi_getD,Mi_len,Nt_Mi,Int.toNat_natCast,Mi_set,Nat.zero_add,Nat.sub_zero,orI_len,orW_len]
 rcases find_facts (fun i=> !fitL m C (wordAt W i)) L 0 (by omega) with⟨h1,h2⟩|⟨r,h1,h2,h3,h4⟩
 ·have hall:∀x∈L,fitL m C (wordAt W x)=true:=fun x hx=>by simpa using h2 x hx
  rw[takeWhile_all _ L hall] at c1⊢
  rw[h1] at c1⊢
  rw[keepI_all hall,Nat.sub_self,List.replicate_zero,List.append_nil]
  simp (disch:=omega) only[oo,oop,ne_eq,Ty.dflt,reduceCtorEq]
  repeat' (first|with_reducible refine And.intro ?_ ?_|intro _)
  all_goals first|rfl|omega|assumption|trivial|exact room3 (by omega)|(exfalso;simp_all;done)|(exfalso;omega)|skip
 ·have h5:fitL m C (wordAt W (L.getD r 0))=false:=by simpa using h3
  have hall:∀x∈L.take r,fitL m C (wordAt W x)=true:=fun x hx=>by simpa using h4 x hx
  rw[takeWhile_at _ 0 L r h2 h5 hall] at c1⊢
  rw[h1,Int.zero_add] at c1⊢
  have hr1:IntKind.i64.wrap ((r:Int)+1)=(r:Int)+1:=wrG (by omega) (by omega)
  have ht:=take_succ_at (0:Int) L (i:=(r:Int)) (by omega) (by omega)
  rw[Int.toNat_natCast] at ht
  have hk:keepI W m C (L.take ((r:Int)+1).toNat)=L.take r:=by rw[ht,keepI_append,keepI_one,if_neg (by rw[h5];exact Bool.false_ne_true),List.append_nil,keepI_all hall]
  have hx:=e123 W S m C n L hn F th hth hts (L.length-(r+1)) ((r:Int)+1) r L (orI W m C th (L.take r)) (by omega) (by omega) rfl rfl (by rw[hk,Int.toNat_natCast]) (by rw[ht,orI_append,orI_one,if_neg (by rw[h5];exact Bool.false_ne_true)]) (by rw[hk,List.length_take];omega)
  rw[hr1]
  have hne:((r:Int)== -1)=false:=by rw[beq_eq_false_iff_ne];omega
  rw[hne]
  simp (disch:=omega) only[oo,oop,ne_eq,Ty.dflt,reduceCtorEq]
  repeat' (first|with_reducible refine And.intro ?_ ?_|intro _)
  all_goals first|rfl|omega|assumption|trivial|exact room3 (by omega)|(exfalso;simp_all;done)|(exfalso;omega)|skip
theorem d98 (s:Int) (n k:Nat) (wt:List Bool) (td:List Int) (hn:wt.length=n) (hk:td.length=k) (hs:s<n) (hkk:k≤1000):Con Tryd.prog 144 [.box 44 [.own 1 0 n (some n)],.data 4 .bool wt,.box 27 [.own 3 0 k none],.data 3 (.int .i64) td] [.v (.int .i64 s),.ptr 0 0 0,.ptr 2 0 0] (.tup []) [some (.box 44 [.own 1 0 n (some n)]),some (.data 4 .bool (putF wt td s).1),some (.box 27 [.own 4 0 (putF wt td s).2.length none]),none] [.data 3 (.int .i64) (putF wt td s).2]:=by
 refine con_vc (how:=[]) (c:=n98) (K:=(KK n98)) spNa (fun _=> []) (fun k=> [⟨1000000002,3,.int .i64⟩]) 400 (.fork (.fork .stop .stop) (.f .stop)) (V:=fun G R=>(decide (s≥(0:Int))=true→(0:Int)≤s∧s< (↑n:Int)∧0+s.toNat<wt.length∧((!wt.getD (0+s.toNat) Ty.bool.dflt)=true→(0:Int)≤s∧s< (↑n:Int)∧0+s.toNat<wt.length∧roomy Tryd.prog 3 (k+1)∧R (D.tup [],[some (Row.box 44 [D.own 1 0 n (some n)]),some (Row.data 4 Ty.bool (wt.set (0+s.toNat) true)),some (Row.box 27 [D.own 4 0 (k+1) none]),none],[Row.data 3 (Ty.int .i64) (List.take (k+1) (List.drop 0 (List.take k (List.drop 0 td)++List.take 1 (List.drop 0 [s]))))]))∧((!wt.getD (0+s.toNat) Ty.bool.dflt)=false→R (D.tup [],[some (Row.box 44 [D.own 1 0 n (some n)]),some (Row.data 4 Ty.bool wt),some (Row.box 27 [D.own 4 0 k none]),none],[Row.data 3 (Ty.int .i64) (List.take k (List.drop 0 td))])))∧(decide (s≥(0:Int))=false→false=false∧R (D.tup [],[some (Row.box 44 [D.own 1 0 n (some n)]),some (Row.data 4 Ty.bool wt),some (Row.box 27 [D.own 4 0 k none]),none],[Row.data 3 (Ty.int .i64) (List.take k (List.drop 0 td))]))) hmG Tryd.func144 (by kernel_rfl) (by kernel_rfl) (fun G R=>by kernel_rfl) ?_
 try dsimp only
 simp only[Ty.dflt,Nat.zero_add,←hk,List.drop_zero,List.take_length,take_one,takeSn]
 by_cases h0:0≤s
 ·cases hs:wt.getD s.toNat false
  ·have e:putF wt td s=(wt.set s.toNat true,td++[s]):=if_pos ⟨h0,hs⟩
   rw[e]
   simp only[List.length_append,List.length_cons,List.length_nil,Nat.zero_add]
   simp (disch:=omega) only[oo,oop,ne_eq,Ty.dflt,reduceCtorEq]
   repeat' (first|with_reducible refine And.intro ?_ ?_|intro _)
   all_goals first|rfl|omega|assumption|trivial|exact room3 (by omega)|(exfalso;simp_all;done)|(exfalso;omega)|skip
  ·have e:putF wt td s=(wt,td):=if_neg (fun h=>by rw[hs] at h;exact absurd h.2 (by simp))
   rw[e]
   simp (disch:=omega) only[oo,oop,ne_eq,Ty.dflt,reduceCtorEq]
   repeat' (first|with_reducible refine And.intro ?_ ?_|intro _)
   all_goals first|rfl|omega|assumption|trivial|exact room3 (by omega)|(exfalso;simp_all;done)|(exfalso;omega)|skip
 ·have e:putF wt td s=(wt,td):=if_neg (fun h=>h0 h.1)
  rw[e]
  simp (disch:=omega) only[oo,oop,ne_eq,Ty.dflt,reduceCtorEq]
  repeat' (first|with_reducible refine And.intro ?_ ?_|intro _)
  all_goals first|rfl|omega|assumption|trivial|exact room3 (by omega)|(exfalso;simp_all;done)|(exfalso;omega)|skip
end Go.Proofs.YtnakmganodkliaaDoorAm
namespace Go.Proofs.YtnakmganodkliaaDoorAm
open Go
theorem wrap_and {a b:Nat} (ha:a<W64) (hb:b<W64):IntKind.u64.wrap (((BitVec.ofInt 64 (a:Int)&&&BitVec.ofInt 64 (b:Int)).toNat:Nat):Int)=((a&&&b:Nat):Int):=by
 rw[andU ha hb]
 exact wrU' (and_lt ha)
theorem takeL {α:Type} (a b:List α):(a++b).take a.length=a:=by simp
theorem rep_small (n:Nat):Smalls (List.replicate n 0):=by
 intro x hx
 rw[(List.mem_replicate.1 hx).2]
 decide
theorem cast_beq (a b:Nat):((a:Int)==(b:Int))=(a==b):=by
 apply Bool.eq_iff_iff.2
 simp only[beq_iff_eq]
 omega
theorem may_snoc (W:List (List Int)) (S:List Slt) (s:Slt):mayF W (S++[s])=mayF W S++[idxF (fun w=>w.length==s.2.2.length) 0 W]:=by simp[mayF]
theorem may_len (W:List (List Int)) (S:List Slt):(mayF W S).length=S.length:=by simp[mayF]
end Go.Proofs.YtnakmganodkliaaDoorAm
namespace Go.Proofs.YtnakmganodkliaaDoorAm
open Go
theorem word_at {P V:List (List Int)} {v:List Int}:wordAt (P++v::V) (P.length:Int)=v:=by
 unfold wordAt
 rw[Int.toNat_natCast,List.getD_eq_getElem?_getD,List.getElem?_append_right (Nat.le_refl _)]
 simp
theorem idx_filter_gen (f g:List Int→Bool):∀(V P:List (List Int)),(idxF f (P.length:Int) V).filter (fun x=>g (wordAt (P++V) x))=idxF (fun w=>f w&&g w) (P.length:Int) V
 | [],_=>rfl
 |v::V,P=>by
  have ih:=idx_filter_gen f g V (P++[v])
  rw[List.length_append,List.length_cons,List.length_nil,List.append_assoc,List.singleton_append] at ih
  have e:(((P.length+(0+1):Nat)):Int)=(P.length:Int)+1:=by omega
  rw[e] at ih
  simp only[idxF]
  rcases Bool.eq_false_or_eq_true (f v) with hf|hf
  ·rcases Bool.eq_false_or_eq_true (g v) with hg|hg
   ·simp only[hf,hg,if_true,List.filter_cons,word_at,Bool.true_and,ih]
   ·simp only[hf,hg,if_true,List.filter_cons,word_at,Bool.true_and,Bool.false_eq_true,if_false,ih]
  ·simp only[hf,Bool.false_and,Bool.false_eq_true,if_false,ih]
theorem idx_filter (f g:List Int→Bool) (W:List (List Int)):(idxF f 0 W).filter (fun x=>g (wordAt W x))=idxF (fun w=>f w&&g w) 0 W:=idx_filter_gen f g W []
theorem idx_map_gen (f:List Int→Bool):∀(V P:List (List Int)),(idxF f (P.length:Int) V).map (wordAt (P++V))=V.filter f
 | [],_=>rfl
 |v::V,P=>by
  have ih:=idx_map_gen f V (P++[v])
  rw[List.length_append,List.length_cons,List.length_nil,List.append_assoc,List.singleton_append] at ih
  have e:(((P.length+(0+1):Nat)):Int)=(P.length:Int)+1:=by omega
  rw[e] at ih
  simp only[idxF,List.filter_cons]
  rcases Bool.eq_false_or_eq_true (f v) with hf|hf
  ·simp only[hf,if_true,List.map_cons,word_at,ih]
  ·simp only[hf,Bool.false_eq_true,if_false,ih]
theorem idx_map (f:List Int→Bool) (W:List (List Int)):(idxF f 0 W).map (wordAt W)=W.filter f:=idx_map_gen f W []
theorem idx_range (f:List Int→Bool):∀(V:List (List Int)) (i:Int),∀x∈idxF f i V,i≤x∧x<i+V.length
 | [],_,x,h=>by simp[idxF] at h
 |v::V,i,x,h=>by
  simp only[idxF] at h
  have ih:=idx_range f V (i+1)
  have e:((v::V).length:Int)=V.length+1:=by simp
  split at h
  ·rcases List.mem_cons.1 h with h|h
   ·subst h;omega
   ·have:=ih x h;omega
  ·have:=ih x h;omega
theorem idx_word {f:List Int→Bool} {W:List (List Int)} {x:Int} (h:x∈idxF f 0 W):0≤x∧x<W.length∧wordAt W x∈W∧f (wordAt W x)=true:=by
 have h1:=idx_range f W 0 x h
 have h2:wordAt W x∈W.filter f:=by rw[←idx_map];exact List.mem_map_of_mem h
 rw[List.mem_filter] at h2
 exact⟨h1.1,by omega,h2.1,h2.2⟩
theorem keep_idx {W:List (List Int)} {m:List Nat} {C:List Int} {f:List Int→Bool} (h:∀w,fitL m C w=true→f w=true):keepI W m C (idxF f 0 W)=idxF (fitL m C) 0 W:=by
 unfold keepI
 rw[idx_filter f (fitL m C)]
 refine idx_same fun w _=> ?_
 cases hw:fitL m C w with
 |false=>simp
 |true=>rw[h w hw];rfl
theorem orW_get:∀(w:List Int) (k:Nat) (th:List Nat) (j:Nat),j<th.length→(orW k w th).getD j 0=if k≤j∧j-k<w.length then th.getD j 0|||bitN (w.getD (j-k) 0) else th.getD j 0
 | [],k,th,j,h=>by simp[orW]
 |c::w,k,th,j,h=>by
  simp only[orW]
  rw[orW_get w (k+1) _ j (by simpa using h)]
  by_cases e:k=j
  ·subst e
   rw[if_neg (by omega),if_pos (by simp),getD_set_nat,if_pos ⟨rfl,h⟩]
   simp
  ·have hs:(th.set k (th.getD k 0|||bitN c)).getD j 0=th.getD j 0:=by rw[getD_set_nat,if_neg (fun q=>e q.1)]
   rw[hs]
   by_cases e2:k+1≤j∧j-(k+1)<w.length
   ·rw[if_pos e2,if_pos (by simp;omega)]
    rw[show j-k=(j-(k+1))+1 by omega,List.getD_cons_succ]
   ·rw[if_neg e2,if_neg (by simp;omega)]
theorem orI_get (W:List (List Int)) (m:List Nat) (C:List Int) (j:Nat) (hj:j<C.length):∀(l:List Int) (th:List Nat),j<th.length→(∀x∈l,(wordAt W x).length=C.length∧∀c∈wordAt W x,0≤c∧c<64)→(orI W m C th l).getD j 0=ofA (th.getD j 0) ((keepI W m C l).map fun x=>(wordAt W x).getD j 0)
 | [],th,_,_=>rfl
 |x::l,th,ht,h=>by
  have hx:=h x List.mem_cons_self
  have hl:=fun y hy=>h y (List.mem_cons_of_mem x hy)
  rw[orI_cons,show x::l=[x]++l from rfl,keepI_append,keepI_one]
  cases hf:fitL m C (wordAt W x) with
  |false=>simpa using orI_get W m C j hj l th ht hl
  |true=>
   simp only[if_true,List.singleton_append,List.map_cons]
   rw[orI_get W m C j hj l _ (by rw[orW_len];exact ht) hl,orW_get _ _ _ _ ht,if_pos ⟨by omega,by omega⟩]
   have hc:=hx.2 ((wordAt W x).getD j 0) (getD_in (by omega))
   simp only[Nat.sub_zero,ofA]
   congr 1
   unfold bitN
   rw[if_neg (by omega)]
   first|rfl|(rw[if_pos (by omega)])|(simp;omega)
theorem there_look {W:List (List Int)} {m:List Nat} {C:List Int} {f:List Int→Bool} (hW:∀w∈W,∀c∈w,0≤c∧c<64) (h1:∀w,fitL m C w=true→f w=true) (h2:∀w,f w=true→w.length=C.length) {k:Nat} (hk:k<C.length):(thereI W m C (idxF f 0 W)).getD k 0=thereF W (fitL m C) k:=by
 unfold thereI
 rw[orI_get W m C k hk _ _ (by simpa using hk) (fun x hx=> ?_),keep_idx h1]
 ·have e:(List.replicate C.length 0).getD k 0=0:=by
   rw[List.getD_eq_getElem?_getD,List.getElem?_replicate]
   split<;>rfl
  rw[e]
  unfold thereF ofN
  rw[←idx_map,List.map_map]
  rfl
 ·obtain⟨_,_,hw,hf⟩:=idx_word hx
  exact⟨h2 _ hf,hW _ hw⟩
theorem meet_same {a b:Nat→Nat}:∀{cs:List Int} {k:Nat} {m:List Nat},(∀j,k≤j→j<k+cs.length→a j=b j)→meetL a k cs m=meetL b k cs m
 | [],_,_,_=>rfl
 |c::cs,k,m,h=>by
  simp only[meetL]
  rw[h k (Nat.le_refl _) (by simp),meet_same fun j h1 h2=>h j (by omega) (by simp;omega)]
theorem look_same {W:List (List Int)} {m:List Nat} {s:Slt} {f:List Int→Bool} (hW:∀w∈W,∀c∈w,0≤c∧c<64) (h1:∀w,fitL m s.2.2 w=true→f w=true) (h2:∀w,f w=true→w.length=s.2.2.length):lookC W m s.2.2 (idxF f 0 W)=lookF W m s:=by
 unfold lookC lookF
 exact meet_same fun j _ hj=>there_look hW h1 h2 (by omega)
theorem lost_sub (th:List Nat):∀(cs:List Int) (k:Nat) (m:List Nat),∀x∈lostL th k cs m,x∈cs
 | [],_,_,x,h=>by simp[lostL] at h
 |c::cs,k,m,x,h=>by
  simp only[lostL] at h
  split at h
  ·exact List.mem_cons_of_mem _ (lost_sub th cs _ _ x h)
  ·rcases List.mem_cons.1 h with h|h
   ·rw[h];exact List.mem_cons_self
   ·exact List.mem_cons_of_mem _ (lost_sub th cs _ _ x h)
theorem lost_mem (th:List Nat):∀(cs:List Int) (k:Nat) (m:List Nat) (j:Nat),(meetL (fun k=>th.getD k 0) k cs m).getD j 0≠m.getD j 0→∃x∈lostL th k cs m,x.toNat=j
 | [],_,_,j,h=>absurd rfl h
 |c::cs,k,m,j,h=>by
  simp only[meetL,lostL] at h⊢
  by_cases e:m.getD c.toNat 0&&&th.getD k 0=m.getD c.toNat 0
  ·rw[if_pos e]
   rw[e,set_same 0] at h
   exact lost_mem th cs (k+1) m j h
  ·rw[if_neg e]
   by_cases hj:c.toNat=j
   ·exact⟨c,List.mem_cons_self,hj⟩
   ·have e2:(m.set c.toNat (m.getD c.toNat 0&&&th.getD k 0)).getD j 0=m.getD j 0:=by
     rw[getD_set_nat,if_neg (fun q=>hj q.1)]
    rw[←e2] at h
    obtain⟨x,hx,hxj⟩:=lost_mem th cs (k+1) _ j h
    exact⟨x,List.mem_cons_of_mem _ hx,hxj⟩
theorem sum_le {a b:List Nat} (hl:a.length=b.length) (h:∀c,a.getD c 0≤b.getD c 0):a.sum≤b.sum:=by
 by_cases e:a=b
 ·rw[e];exact Nat.le_refl _
 ·exact Nat.le_of_lt (sum_lt hl h e)
theorem meet_le (th:Nat→Nat) (cs:List Int) (k:Nat) (m:List Nat) (c:Nat):(meetL th k cs m).getD c 0≤m.getD c 0:=sub_le fun i hi=>((meet_bits th cs k m c i).1 hi).1
theorem lost_sum (th:List Nat):∀(cs:List Int) (k:Nat) (m:List Nat),(∀c∈cs,c.toNat<m.length)→lostL th k cs m≠ []→(meetL (fun k=>th.getD k 0) k cs m).sum<m.sum
 | [],_,_,_,h=>absurd rfl h
 |c::cs,k,m,hc,h=>by
  simp only[meetL,lostL] at h⊢
  by_cases e:m.getD c.toNat 0&&&th.getD k 0=m.getD c.toNat 0
  ·rw[if_pos e] at h
   rw[e,set_same 0]
   exact lost_sum th cs (k+1) m (fun x hx=>hc x (List.mem_cons_of_mem _ hx)) h
  ·have h1:(meetL (fun k=>th.getD k 0) (k+1) cs (m.set c.toNat (m.getD c.toNat 0&&&th.getD k 0))).sum≤(m.set c.toNat (m.getD c.toNat 0&&&th.getD k 0)).sum:=sum_le (meet_len _ _ _ _) (meet_le _ _ _ _)
   have h2:(m.set c.toNat (m.getD c.toNat 0&&&th.getD k 0)).sum<m.sum:=by
    refine sum_lt (by simp) (fun j=> ?_) (fun q=>e ?_)
    ·rw[getD_set_nat]
     split
     ·rename_i q;rw[←q.1];exact Nat.and_le_left
     ·exact Nat.le_refl _
    ·have:=congrArg (fun l=>l.getD c.toNat 0) q
     rw[getD_set_nat,if_pos ⟨rfl,hc c List.mem_cons_self⟩] at this
     exact this
   omega
theorem lost_nil (th:List Nat) (cs:List Int) (k:Nat) (m:List Nat) (h:lostL th k cs m=[]):meetL (fun k=>th.getD k 0) k cs m=m:=by
 refine list_ext_getD 0 (meet_len _ _ _ _) fun j hj=> ?_
 by_cases e:(meetL (fun k=>th.getD k 0) k cs m).getD j 0=m.getD j 0
 ·exact e
 ·obtain⟨x,hx,_⟩:=lost_mem th cs k m j e
  rw[h] at hx
  simp at hx
def cntT:List Bool→Nat
 | []=>0
 |b::l=>(if b then 1 else 0)+cntT l
theorem cnt_le:∀(l:List Bool),cntT l≤l.length
 | []=>Nat.le_refl _
 |b::l=>by simp only[cntT,List.length_cons];have:=cnt_le l;split<;>omega
theorem cnt_set:∀(l:List Bool) (i:Nat) (b:Bool),i<l.length→cntT (l.set i b)+(if l.getD i false then 1 else 0)=cntT l+(if b then 1 else 0)
 | [],i,b,h=>by simp at h
 |a::l,0,b,_=>by simp only[List.set_cons_zero,cntT,List.getD_cons_zero];omega
 |a::l,i+1,b,h=>by
  simp only[List.set_cons_succ,cntT,List.getD_cons_succ]
  have:=cnt_set l i b (by simpa using h)
  omega
structure Queue (wt:List Bool) (td:List Int) (N:Nat):Prop where
 len:wt.length=N
 nodup:td.Nodup
 mem:∀s∈td,0≤s∧s<N∧wt.getD s.toNat false=true
 all:∀j,wt.getD j false=true→(j:Int)∈td
 cnt:td.length=cntT wt
theorem Queue.long {wt:List Bool} {td:List Int} {N:Nat} (q:Queue wt td N):td.length≤N:=by
 rw[q.cnt,←q.len]
 exact cnt_le wt
theorem getD_set_bool (l:List Bool) (c:Nat) (v:Bool) (d:Nat):(l.set c v).getD d false=if c=d∧c<l.length then v else l.getD d false:=getD_set_gen false l c v d
theorem put_queue {wt:List Bool} {td:List Int} {N:Nat} {s:Int} (q:Queue wt td N) (hs:s<N):Queue (putF wt td s).1 (putF wt td s).2 N∧(∀j,wt.getD j false=true→(putF wt td s).1.getD j false=true)∧(0≤s→(putF wt td s).1.getD s.toNat false=true):=by
 unfold putF
 by_cases h:0≤s∧wt.getD s.toNat false=false
 ·rw[if_pos h]
  have hl:s.toNat<wt.length:=by rw[q.len];omega
  refine⟨⟨by simp[q.len],?_,?_,?_,?_⟩,?_,?_⟩
  ·rw[List.nodup_append]
   refine⟨q.nodup,by simp,?_⟩
   intro a ha b hb e
   rw[List.mem_singleton] at hb
   subst hb
   subst e
   have:=(q.mem a ha).2.2
   rw[h.2] at this
   cases this
  ·intro a ha
   rcases List.mem_append.1 ha with ha|ha
   ·have:=q.mem a ha
    refine⟨this.1,this.2.1,?_⟩
    rw[getD_set_bool]
    split
    ·rfl
    ·exact this.2.2
   ·rw[List.mem_singleton] at ha
    subst ha
    exact⟨h.1,hs,by rw[getD_set_bool,if_pos ⟨rfl,hl⟩]⟩
  ·intro j hj
   rw[getD_set_bool] at hj
   rw[List.mem_append]
   split at hj
   ·rename_i e
    right
    rw[List.mem_singleton]
    omega
   ·exact .inl (q.all j hj)
  ·show(td++[s]).length=cntT (wt.set s.toNat true)
   rw[List.length_append,List.length_cons,List.length_nil,q.cnt]
   have:=cnt_set wt s.toNat true hl
   rw[h.2] at this
   simp only[Bool.false_eq_true,if_false,if_true] at this
   omega
  ·intro j hj
   show(wt.set s.toNat true).getD j false=true
   rw[getD_set_bool]
   split
   ·rfl
   ·exact hj
  ·intro _
   show(wt.set s.toNat true).getD s.toNat false=true
   rw[getD_set_bool,if_pos ⟨rfl,hl⟩]
 ·rw[if_neg h]
  refine⟨q,fun j hj=>hj,fun h0=> ?_⟩
  show wt.getD s.toNat false=true
  cases e:wt.getD s.toNat false with
  |true=>rfl
  |false=>exact absurd ⟨h0,e⟩ h
theorem pop_queue {wt:List Bool} {td:List Int} {N:Nat} {s:Int} (q:Queue wt (s::td) N):Queue (wt.set s.toNat false) td N:=by
 have hs:=q.mem s List.mem_cons_self
 have hl:s.toNat<wt.length:=by rw[q.len];omega
 have hn:=List.nodup_cons.1 q.nodup
 refine⟨by simp[q.len],hn.2,?_,?_,?_⟩
 ·intro a ha
  have h1:=q.mem a (List.mem_cons_of_mem _ ha)
  refine⟨h1.1,h1.2.1,?_⟩
  rw[getD_set_bool,if_neg ?_]
  ·exact h1.2.2
  ·rintro⟨e,_⟩
   have:s=a:=by omega
   rw[this] at hn
   exact hn.1 ha
 ·intro j hj
  rw[getD_set_bool] at hj
  split at hj
  ·cases hj
  ·rename_i e
   rcases List.mem_cons.1 (q.all j hj) with h|h
   ·exact absurd ⟨by omega,hl⟩ e
   ·exact h
 ·have h1:=q.cnt
  have h2:=cnt_set wt s.toNat false hl
  rw[hs.2.2] at h2
  simp only[if_true,Bool.false_eq_true,if_false,List.length_cons] at h1 h2
  omega
def putsF (A D:List (Int×Int)):List Int→List Bool×List Int→List Bool×List Int
 | [],q=>q
 |c::cs,q=>putsF A D cs (putF (putF q.1 q.2 (A.getD c.toNat (-1,0)).1).1 (putF q.1 q.2 (A.getD c.toNat (-1,0)).1).2 (D.getD c.toNat (-1,0)).1)
theorem puts_queue {A D:List (Int×Int)} {N:Nat} (hA:∀c:Nat,(A.getD c (-1,0)).1<N) (hD:∀c:Nat,(D.getD c (-1,0)).1<N):∀(cs:List Int) (wt:List Bool) (td:List Int),Queue wt td N→Queue (putsF A D cs (wt,td)).1 (putsF A D cs (wt,td)).2 N∧(∀j,wt.getD j false=true→(putsF A D cs (wt,td)).1.getD j false=true)∧
  ∀c∈cs,∀j:Nat,((A.getD c.toNat (-1,0)).1=j∨(D.getD c.toNat (-1,0)).1=j)→(putsF A D cs (wt,td)).1.getD j false=true
 | [],wt,td,q=>⟨q,fun j h=>h,fun c hc=>by simp at hc⟩
 |c::cs,wt,td,q=>by
  obtain⟨q1,g1,p1⟩:=put_queue q (hA c.toNat)
  obtain⟨q2,g2,p2⟩:=put_queue q1 (hD c.toNat)
  obtain⟨q3,g3,p3⟩:=puts_queue hA hD cs _ _ q2
  refine⟨q3,fun j h=>g3 j (g2 j (g1 j h)),fun x hx j hj=> ?_⟩
  rcases List.mem_cons.1 hx with hx|hx
  ·subst hx
   refine g3 j ?_
   rcases hj with hj|hj
   ·refine g2 j ?_
    have:=p1 (by rw[hj];omega)
    rw[show((A.getD x.toNat (-1,0)).1).toNat=j by rw[hj];exact Int.toNat_natCast j] at this
    exact this
   ·have:=p2 (by rw[hj];omega)
    rw[show((D.getD x.toNat (-1,0)).1).toNat=j by rw[hj];exact Int.toNat_natCast j] at this
    exact this
  ·exact p3 x hx j hj
abbrev sAtN (S:List Slt) (j:Nat):Slt:=S.getD j (0,false,[])
structure Inv (W:List (List Int)) (S:List Slt) (m0 m:List Nat) (ms:List (List Int)) (wt:List Bool) (td:List Int):Prop where
 len:m.length=m0.length
 lo:Leq (gfpF W S m0) m
 hi:Leq m m0
 may:ms.length=S.length
 ok:∀j,j<S.length→∃f:List Int→Bool,ms.getD j []=idxF f 0 W∧(∀w,fitL m (sAtN S j).2.2 w=true→f w=true)∧∀w,f w=true→w.length=(sAtN S j).2.2.length
 fine:∀j,j<S.length→wt.getD j false=false→Stable1 W m (sAtN S j)∧ms.getD j []=idxF (fitL m (sAtN S j).2.2) 0 W
 q:Queue wt td S.length
theorem Inv.done {W:List (List Int)} {S:List Slt} {m0 m:List Nat} {ms:List (List Int)} {wt:List Bool} (I:Inv W S m0 m ms wt []):m=gfpF W S m0∧ms=wordsF W S m:=by
 have hw:∀j,wt.getD j false=false:=fun j=>by
  cases e:wt.getD j false with
  |false=>rfl
  |true=>have:=I.q.all j e;simp at this
 constructor
 ·refine gfp_eq I.len (fun s hs=> ?_) I.hi I.lo
  obtain⟨j,hj,e⟩:=List.getElem_of_mem hs
  have:=(I.fine j hj (hw j)).1
  rw[show sAtN S j=s by rw[←e];simp[sAtN,List.getD_eq_getElem?_getD,hj]] at this
  exact this
 ·refine list_ext_getD [] (by rw[I.may];simp[wordsF]) fun j hj=> ?_
  have hj':j<S.length:=by rw[←I.may];exact hj
  rw[(I.fine j hj' (hw j)).2]
  unfold wordsF
  simp[List.getD_eq_getElem?_getD,hj',sAtN]
structure Board (W:List (List Int)) (S:List Slt) (n:Nat) (A D:List (Int×Int)):Prop where
 letters:∀w∈W,∀c∈w,0≤c∧c<64
 cells:∀j,j<S.length→∀c∈(sAtN S j).2.2,0≤c∧c<n
 once:∀j,j<S.length→OnceS (sAtN S j)
 seat:∀j,j<S.length→∀c∈(sAtN S j).2.2,(A.getD c.toNat (-1,0)).1=j∨(D.getD c.toNat (-1,0)).1=j
 inA:∀c:Nat,(A.getD c (-1,0)).1<S.length
 inD:∀c:Nat,(D.getD c (-1,0)).1<S.length
theorem Inv.step {W:List (List Int)} {S:List Slt} {m0 m:List Nat} {ms:List (List Int)} {wt:List Bool} {s:Int} {td:List Int} {A D:List (Int×Int)} (B:Board W S m0.length A D) (I:Inv W S m0 m ms wt (s::td))
  {C l:List Int} (hC:(slotAt S s).2.2=C) (hl:ms.getD s.toNat []=l):
  Inv W S m0 (lookC W m C l) (ms.set s.toNat (keepI W m C l)) (putsF A D (lostC W m C l) (wt.set s.toNat false,td)).1 (putsF A D (lostC W m C l) (wt.set s.toNat false,td)).2∧
  (lookC W m C l).sum*(S.length+1)+(putsF A D (lostC W m C l) (wt.set s.toNat false,td)).2.length<m.sum*(S.length+1)+(td.length+1):=by
 have hs:=I.q.mem s List.mem_cons_self
 have hj:s.toNat<S.length:=by omega
 obtain⟨f,hf,hf1,hf2⟩:=I.ok s.toNat hj
 have hsl:sAtN S s.toNat=slotAt S s:=rfl
 have hlf:l=idxF f 0 W:=by rw[←hl,hf]
 rw[hsl,hC] at hf1 hf2
 have hlook:lookC W m C l=lookF W m (slotAt S s):=by
  rw[hlf,←hC]
  rw[←hC] at hf1 hf2
  exact look_same B.letters hf1 hf2
 have hkeep:keepI W m C l=idxF (fitL m C) 0 W:=by rw[hlf];exact keep_idx hf1
 have hon:OnceS (slotAt S s):=B.once s.toNat hj
 have q1:=pop_queue I.q
 obtain⟨q2,g2,p2⟩:=puts_queue B.inA B.inD (lostC W m C l) _ _ q1
 have hleq:Leq (lookC W m C l) m:=by rw[hlook];exact look_leq W m _
 have hfit:∀w∈W,fitL (lookC W m C l) C w=fitL m C w:=fun w hw=>by
  rw[hlook]
  have:=look_fit (m:=m) hon hw
  rw[hC] at this
  exact this
 have hcells:∀c∈C,c.toNat<m.length:=fun c hc=>by
  have:=B.cells s.toNat hj c (by rw[hsl,hC];exact hc)
  rw[I.len]
  omega
 have hsame:∀j,j<S.length→(putsF A D (lostC W m C l) (wt.set s.toNat false,td)).1.getD j false=false→∀c∈(sAtN S j).2.2,m.getD c.toNat 0=(lookC W m C l).getD c.toNat 0:=by
  intro j hj2 hw c hc
  by_cases e:(lookC W m C l).getD c.toNat 0=m.getD c.toNat 0
  ·exact e.symm
  ·exfalso
   obtain⟨x,hx,hxc⟩:=lost_mem (thereI W m C l) C 0 m c.toNat e
   have:=p2 x hx j (by rw[hxc];exact B.seat j hj2 c hc)
   rw[hw] at this
   cases this
 refine⟨⟨?_,?_,hleq.trans I.hi,by simp[I.may],?_,?_,q2⟩,?_⟩
 ·rw[hlook,look_len,I.len]
 ·rw[hlook]
  refine look_below ?_ I.lo
  have:=gfp_stable W S m0 (slotAt S s) (by
   unfold slotAt
   exact getD_in hj)
  exact this
 ·intro j hj2
  by_cases e:s.toNat=j
  ·subst e
   refine⟨fitL m C,?_,fun w hw=> ?_,fun w hw=> ?_⟩
   ·rw[getD_set_gen,if_pos ⟨rfl,by rw[I.may];exact hj⟩,hkeep]
   ·rw[hsl,hC] at hw
    exact fit_mono hleq hw
   ·rw[hsl,hC]
    exact((fit_iff m C w).1 hw).1
  ·obtain⟨f',h1,h2,h3⟩:=I.ok j hj2
   refine⟨f',?_,fun w hw=>h2 w (fit_mono hleq hw),h3⟩
   rw[getD_set_gen,if_neg (fun q=>e q.1)]
   exact h1
 ·intro j hj2 hw
  have hkept:=hsame j hj2 hw
  by_cases e:s.toNat=j
  ·subst e
   rw[getD_set_gen,if_pos ⟨rfl,by rw[I.may];exact hj⟩,hkeep]
   constructor
   ·rw[hlook]
    exact look_stable hon
   ·rw[hsl,hC]
    exact(idx_same fun w hw=>hfit w hw).symm
  ·have hw0:wt.getD j false=false:=by
    cases e2:wt.getD j false with
    |false=>rfl
    |true=>
     have:=g2 j (by rw[getD_set_bool,if_neg (fun q=>e q.1)];exact e2)
     rw[hw] at this
     cases this
   obtain⟨h1,h2⟩:=I.fine j hj2 hw0
   rw[getD_set_gen,if_neg (fun q=>e q.1)]
   refine⟨stable_keep hkept h1,?_⟩
   rw[h2]
   exact idx_same fun w _=>fit_keep hkept w
 ·have hql:=q2.long
  by_cases e:lostC W m C l=[]
  ·have e2:lookC W m C l=m:=lost_nil _ _ _ _ e
   rw[e,e2]
   show m.sum*(S.length+1)+td.length<_
   omega
  ·have e2:(lookC W m C l).sum<m.sum:=lost_sum _ _ _ _ hcells e
   have e3:((lookC W m C l).sum+1)*(S.length+1)≤m.sum*(S.length+1):=Nat.mul_le_mul_right _ e2
   rw[Nat.add_mul] at e3
   omega
end Go.Proofs.YtnakmganodkliaaDoorAm
set_option maxRecDepth 100000
namespace Go.Proofs.YtnakmganodkliaaDoorAm
open Go
def vq10 (W:List (List Int)) (S:List Slt) (m:List Nat) (ms:List (List Int)) (C:List Int) (th:List Nat) (ns:List (List Int)) (k:Int) (mm:List Nat) (lo:List Int) (G:Nat→St→Prop) (R:D×List (Option Row)×List Row→Prop):Prop:=let yy0:=(Ty.int .i64);let yy1:=(↑(BitVec.ofInt 64 ((Mi mm).getD (0+Int.toNat (C.getD k.toNat yy0.dflt)) (Ty.int .u64).dflt)&&&BitVec.ofInt 64 ((Mi th).getD (0+k.toNat) (Ty.int .u64).dflt)).toNat:Int);let yy2:=(Row.box 176 [D.sl false false yy0.sl W,D.sl false false (yy0.prod (Ty.bool.prod yy0.sl)) S,D.own 1 0 m.length (some m.length),D.own 2 0 ms.length none]);let yy3:=(C.getD k.toNat yy0.dflt);let yy4:=(Ty.int .u64);let yy5:=(Row.nest (NK.mk 27 yy0.sl 0 3 yy0) ns none);let yy6:=(↑C.length:Int);(decide (k<yy6)=true→(0:Int)≤k∧k<yy6∧(0:Int)≤C.getD k.toNat yy0.dflt∧C.getD k.toNat yy0.dflt< (↑m.length:Int)∧0+Int.toNat yy3< (Mi mm).length∧(0:Int)≤k∧k<yy6∧0+k.toNat< (Mi th).length∧(0:Int)≤C.getD k.toNat yy0.dflt∧C.getD k.toNat yy0.dflt< (↑m.length:Int)∧0+Int.toNat yy3< (Mi mm).length∧((IntKind.u64.wrap yy1 !=(Mi mm).getD (0+Int.toNat yy3) yy4.dflt)=true→(0:Int)≤C.getD k.toNat yy0.dflt∧C.getD k.toNat yy0.dflt< (↑m.length:Int)∧0+Int.toNat yy3< (Mi mm).length∧roomy Tryd.prog 3 (lo.length+1)∧SameK (KK n99 0) (KK n99 0)∧G 0 (stOf 78 [2,6,7,37,38,39] [D.ptr 3 0 0,D.ptr 4 0 0,D.own 5 0 (lo.length+1) none,D.sl false false yy0 C,D.v (Value.int .i64 yy6),D.v (Value.int .i64 (IntKind.i64.wrap (k+(1:Int))))] [Slot.live yy2,Slot.live (Row.data 22 yy4 ((Mi mm).set (0+Int.toNat yy3) (IntKind.u64.wrap yy1))),Slot.live yy5,Slot.live (Row.box 173 [D.ptr 0 0 0]),Slot.live (Row.box 33 [D.own 6 0 C.length (some C.length)]),Slot.live (Row.data 3 yy0 (List.take lo.length (List.drop 0 lo)++List.take 1 (List.drop 0 [C.getD k.toNat yy0.dflt]))),Slot.live (Row.data 22 yy4 (Mi th))]))∧((IntKind.u64.wrap yy1 !=(Mi mm).getD (0+Int.toNat yy3) yy4.dflt)=false→SameK (KK n99 0) (KK n99 0)∧G 0 (stOf 78 [2,6,7,37,38,39] [D.ptr 3 0 0,D.ptr 4 0 0,D.own 5 0 lo.length none,D.sl false false yy0 C,D.v (Value.int .i64 yy6),D.v (Value.int .i64 (IntKind.i64.wrap (k+(1:Int))))] [Slot.live yy2,Slot.live (Row.data 22 yy4 (Mi mm)),Slot.live yy5,Slot.live (Row.box 173 [D.ptr 0 0 0]),Slot.live (Row.box 33 [D.own 6 0 C.length (some C.length)]),Slot.live (Row.data 3 yy0 lo),Slot.live (Row.data 22 yy4 (Mi th))])))∧(decide (k<yy6)=false→R (D.own 3 0 lo.length none,[some yy2,some (Row.data 22 yy4 (Mi mm)),some yy5],[Row.data 3 yy0 lo]))
theorem e99 (W:List (List Int)) (S:List Slt) (m:List Nat) (ms:List (List Int)) (s:Int) (C:List Int) (th:List Nat) (ns:List (List Int)) (hth:th.length=C.length) (hts:Smalls th) (hC:∀c∈C,0≤c∧c<m.length) (hn:C.length≤300) (mE:List Nat) (loE:List Int) (z:Nat):∀(k:Int) (mm:List Nat) (lo:List Int),0≤k→k+z=C.length→mm.length=m.length→Smalls mm→lo.length≤k→meetL (fun k=>th.getD k 0) k.toNat (C.drop k.toNat) mm=mE→lo++lostL th k.toNat (C.drop k.toNat) mm=loE→GetsK Tryd.prog Tryd.f145.results.toList [none] (KK n99) 3 (.own 3 0 loE.length none,[some (.box 176 [slW W,slS S,.own 1 0 m.length (some m.length),.own 2 0 ms.length none]),some (.data 22 (.int .u64) (Mi mE)),some (.nest kW ns none)],[.data 3 (.int .i64) loE]) 0 (stOf 78 [2,6,7,37,38,39] [.ptr 3 0 0,.ptr 4 0 0,.own 5 0 lo.length none,slI C,.v (.int .i64 C.length),.v (.int .i64 k)] [.live (.box 176 [slW W,slS S,.own 1 0 m.length (some m.length),.own 2 0 ms.length none]),.live (.data 22 (.int .u64) (Mi mm)),.live (.nest kW ns none),.live (.box 173 [.ptr 0 0 0]),.live (.box 33 [.own 6 0 C.length (some C.length)]),.live (.data 3 (.int .i64) lo),.live (.data 22 (.int .u64) (Mi th))]):=by
 induction z with
 |zero=>
  intro k mm lo k0 hk hml hms hlo he hl
  rw[List.drop_eq_nil_of_le (by omega)] at he hl
  have he:mm=mE:=he
  have hl:lo=loE:=by simpa [lostL] using hl
  subst he;subst hl
  refine gets_vc (flag [2000033] spNa) (fun k=> [2,6,7,37,38,39]) (fun k=>if k=0 then [⟨7,3,.int .i64⟩] else [⟨4,3,.int .i64⟩]) 400 (.fork (.fork (.hd 0) (.hd 0)) .stop) (V:=vq10 W S m ms C th ns k mm lo) hmG (fun G R=>by kernel_rfl) ?_
  unfold vq10
  try dsimp only
  simp (disch:=omega) only[oo,oop,ne_eq,Ty.dflt,reduceCtorEq]
  repeat' (first|with_reducible refine And.intro ?_ ?_|intro _)
  all_goals first|rfl|omega|assumption|trivial|exact room3 (by omega)|exact room46 (by omega)|(exfalso;simp_all;done)|(exfalso;omega)|skip
 |succ z ih=>
  intro k mm lo k0 hk hml hms hlo he hl
  have hd:=drop_at (xs:=C) (i:=k) (0:Int) k0 (by omega)
  rw[hd] at he hl
  simp only[meetL,lostL] at he hl
  have hc:=hC _ (getD_in (d:=0) (k:=k.toNat) (l:=C) (by omega))
  obtain⟨c,hcc⟩:∃c,C.getD k.toNat 0=c:=⟨_,rfl⟩
  rw[hcc] at he hl hc
  have hk1:IntKind.i64.wrap (k+1)=k+1:=wrG (by omega) (by omega)
  have hw:=wrap_and (hms.at c.toNat) (hts.at k.toNat)
  have e1:(k+1).toNat=k.toNat+1:=by omega
  refine gets_vc (flag [2000033] spNa) (fun k=> [2,6,7,37,38,39]) (fun k=>if k=0 then [⟨7,3,.int .i64⟩] else [⟨4,3,.int .i64⟩]) 400 (.fork (.fork (.hd 0) (.hd 0)) .stop) (V:=vq10 W S m ms C th ns k mm lo) hmG (fun G R=>by kernel_rfl) ?_
  unfold vq10
  try dsimp only
  simp only[Ty.dflt,hk1,hcc,take_len,List.drop_zero,List.take_length,Mi_getD,Mi_len,Nt_Mi,Int.toNat_natCast,Mi_set,Nat.zero_add,Nat.sub_zero,orI_len,take_one,takeSn,Mi_take,takeL,cast_beq,List.length_append,List.length_cons,List.length_nil,List.length_set,hw]
  by_cases h:mm.getD c.toNat 0&&&th.getD k.toNat 0=mm.getD c.toNat 0
  ·rw[if_pos h] at hl
   have hset:mm.set c.toNat (mm.getD c.toNat 0&&&th.getD k.toNat 0)=mm:=by rw[h];exact set_same 0 _ _
   rw[hset] at he
   have hx:=ih (k+1) mm lo (by omega) (by omega) hml hms (by omega) (by rw[e1] at he⊢;exact he) (by rw[e1] at hl⊢;exact hl)
   rw[h]
   simp (disch:=omega) only[oo,oop,ne_eq,Ty.dflt,reduceCtorEq]
   repeat' (first|with_reducible refine And.intro ?_ ?_|intro _)
   all_goals first|rfl|omega|assumption|trivial|exact room3 (by omega)|exact room46 (by omega)|(exfalso;simp_all;done)|(exfalso;omega)|skip
  ·rw[if_neg h] at hl
   have hx:=ih (k+1) (mm.set c.toNat (mm.getD c.toNat 0&&&th.getD k.toNat 0)) (lo++[c]) (by omega) (by omega) (by rw[List.length_set];exact hml) (by
    intro y hy
    rcases List.mem_or_eq_of_mem_set hy with hy|hy
    ·exact hms y hy
    ·rw[hy];exact and_lt (hms.at _)) (by rw[List.length_append,List.length_cons,List.length_nil];omega) (by rw[e1] at he⊢;exact he) (by rw[e1] at hl;rw[List.append_assoc,e1];exact hl)
   rw[List.length_append,List.length_cons,List.length_nil] at hx
   have hne:((((mm.getD c.toNat 0&&&th.getD k.toNat 0:Nat):Int) !=((mm.getD c.toNat 0:Nat):Int)))=true:=by
    rw[bne_iff_ne]
    omega
   rw[hne]
   simp (disch:=omega) only[oo,oop,ne_eq,Ty.dflt,reduceCtorEq]
   repeat' (first|with_reducible refine And.intro ?_ ?_|intro _)
   all_goals first|rfl|omega|assumption|trivial|exact room3 (by omega)|exact room46 (by omega)|(exfalso;simp_all;done)|(exfalso;omega)|skip
theorem d99 (W:List (List Int)) (S:List Slt) (m:List Nat) (ms:List (List Int)) (s:Int) (s0:0≤s) (s1:s<S.length) (s2:ms.length=S.length) (F:LookOk W m (slotAt S s).2.2 (List.getD ms s.toNat [])):Con Tryd.prog 145 [.box 176 [slW W,slS S,.own 1 0 m.length (some m.length),.own 2 0 ms.length none],.data 22 (.int .u64) (Mi m),.nest kW ms none] [.ptr 0 0 0,.v (.int .i64 s)] (.own 3 0 (lostC W m (slotAt S s).2.2 (List.getD ms s.toNat [])).length none) [some (.box 176 [slW W,slS S,.own 1 0 m.length (some m.length),.own 2 0 ms.length none]),some (.data 22 (.int .u64) (Mi (lookC W m (slotAt S s).2.2 (List.getD ms s.toNat [])))),some (.nest kW (List.set ms s.toNat (keepI W m (slotAt S s).2.2 (List.getD ms s.toNat []))) none)] [.data 3 (.int .i64) (lostC W m (slotAt S s).2.2 (List.getD ms s.toNat []))]:=by
 refine con_vc (how:=[none]) (c:=n99) (K:=(KK n99)) (flag [2000033] spNa) (fun k=> [2,6,7,37,38,39]) (fun k=>if k=0 then [⟨7,3,.int .i64⟩] else [⟨4,3,.int .i64⟩]) 400 (.hd 0) (V:=fun G R=>let yy0:=(S.getD s.toNat ((Ty.int .i64).prod (Ty.bool.prod (Ty.int .i64).sl)).dflt);let yy1:=(ms.getD (0+s.toNat) (NK.mk 27 (Ty.int .i64).sl 0 3 (Ty.int .i64)).t.dflt);let yy2:=(↑(List.length yy0.snd.snd):Int);let yy3:=(keepI W (Nt (Mi m)) yy0.snd.snd yy1++List.replicate (List.length yy1-(keepI W (Nt (Mi m)) yy0.snd.snd yy1).length) (0:Int));let yy4:=(Ty.int .i64);let yy5:=(List.replicate yy2.toNat (0:Int));let yy6:=(Ty.int .u64);let yy7:=(Mi (orI W (Nt (Mi m)) yy0.snd.snd (Nt yy5) yy1));(0:Int)≤s∧s< (↑S.length:Int)∧(0:Int)≤yy2∧yy2≤yy2∧yy2≤(9223372036854775807:Int)∧yy2.toNat*8≤281474976710656∧(0:Int)≤s∧s< (↑ms.length:Int)∧0+s.toNat<ms.length∧Con Tryd.prog 154 [Row.data 3 yy4 yy1,Row.box 33 [D.own 2 0 yy2.toNat (some yy2.toNat)],Row.data 22 yy6 (Mi (Nt yy5))] [D.own 0 0 (List.length yy1) none,D.fn 155 [D.rptr [D.rptr [D.sl false false yy4.sl W,D.sl false false (yy4.prod (Ty.bool.prod yy4.sl)) S,D.sl false false yy6 (Mi (Nt (Mi m))),D.top]],D.rptr [D.sl false false yy4 yy0.snd.snd],D.ptr 1 0 0]] (D.own 0 0 (keepI W (Nt (Mi m)) yy0.snd.snd yy1).length none) [some (Row.data 3 yy4 yy3),some (Row.box 33 [D.own 2 0 yy2.toNat (some yy2.toNat)]),some (Row.data 22 yy6 yy7)] []∧7=7∧0=0∧List.length yy1=List.length yy1∧W=W∧S=S∧List.take m.length (List.drop 0 (Mi m))=Mi (Nt (Mi m))∧yy0.snd.snd=yy0.snd.snd∧6=6∧0=0∧0=0∧yy3.length=List.length yy1∧yy7.length=(Mi (Nt yy5)).length∧some (Row.data 3 yy4 yy1)=some (Row.data 3 yy4 yy1)∧some (Row.box 33 [D.own 5 0 yy2.toNat (some yy2.toNat)])=some (Row.box 33 [D.own 5 0 yy2.toNat (some yy2.toNat)])∧some (Row.data 22 yy6 yy5)=some (Row.data 22 yy6 (Mi (Nt yy5)))∧(0:Int)≤s∧s< (↑ms.length:Int)∧0+s.toNat<ms.length∧0+s.toNat=0+s.toNat∧SameK (KK n99 0) (KK n99 0)∧G 0 (stOf 78 [2,6,7,37,38,39] [D.ptr 3 0 0,D.ptr 4 0 0,D.own 5 0 0 none,D.sl false false yy4 yy0.snd.snd,D.v (Value.int .i64 yy2),D.v (Value.int .i64 (0:Int))] [Slot.live (Row.box 176 [D.sl false false yy4.sl W,D.sl false false (yy4.prod (Ty.bool.prod yy4.sl)) S,D.own 1 0 m.length (some m.length),D.own 2 0 ms.length none]),Slot.live (Row.data 22 yy6 (Mi m)),Slot.live (Row.nest (NK.mk 27 yy4.sl 0 3 yy4) (ms.set (0+s.toNat) (List.take (keepI W (Nt (Mi m)) yy0.snd.snd yy1).length yy3)) none),Slot.live (Row.box 173 [D.ptr 0 0 0]),Slot.live (Row.box 33 [D.own 6 0 yy2.toNat (some yy2.toNat)]),Slot.live (Row.data 3 yy4 []),Slot.live (Row.data 22 yy6 yy7)])) hmG Tryd.func145 (by kernel_rfl) (by kernel_rfl) (fun G R=>by kernel_rfl) ?_
 try dsimp only
 try dsimp only
 obtain⟨C,hC⟩:∃C,(S.getD s.toNat (0,false,[])).2.2=C:=⟨_,rfl⟩
 obtain⟨L,hL⟩:∃L,List.getD ms s.toNat []=L:=⟨_,rfl⟩
 unfold slotAt at F⊢
 rw[hC,hL] at F
 simp only[Ty.dflt,hC,hL,take_len,List.drop_zero,List.take_length,Mi_getD,Mi_len,Nt_Mi,Int.toNat_natCast,Mi_set,Nat.zero_add,Nat.sub_zero,orI_len,take_one,takeSn,Mi_take,takeL,cast_beq,List.length_append,List.length_cons,List.length_nil,List.length_set]
 have hsz:=F.size
 have hr:List.replicate C.length (0:Int)=Mi (List.replicate C.length 0):=Mi_rep _
 have hkl:=keepI_le W m C L
 have c1:=d123 W S m C C.length L (List.replicate C.length 0) rfl F (by simp) (rep_small _)
 have hx:=e99 W S m ms s C (thereI W m C L) (ms.set s.toNat (keepI W m C L)) (by unfold thereI;rw[orI_len];simp) (orI_small W m C L _ (fun i hi=>(F.mem i hi).2.2.2) (rep_small _)) F.cells (by omega) (lookC W m C L) (lostC W m C L) C.length 0 m [] (by omega) (by omega) rfl F.small (by simp) rfl rfl
 simp only[hr,List.length_replicate]
 simp only[Nt_Mi]
 unfold thereI at hx
 have hlen:(keepI W m C L).length+(L.length-(keepI W m C L).length)=L.length:=by omega
 simp only[hlen]
 simp (disch:=omega) only[oo,oop,ne_eq,Ty.dflt,reduceCtorEq]
 repeat' (first|with_reducible refine And.intro ?_ ?_|intro _)
 all_goals first|rfl|omega|assumption|trivial|exact room3 (by omega)|exact room46 (by omega)|(exfalso;simp_all;done)|(exfalso;omega)|skip
def vq11 (g:Gr) (W:List (List Int)) (M:List Nat) (S:List Slt) (ms:List (List Int)) (n:Nat) (s:Int) (C:List Int) (k:Int) (m:List Nat) (G:Nat→St→Prop) (R:D×List (Option Row)×List Row→Prop):Prop:=let yy0:=(Ty.int .i64);let yy1:=(Row.box 73 [D.v (Value.int .i64 g.h),D.v (Value.int .i64 g.w),D.sl false false Ty.bool g.B,D.sl false false Ty.bool g.R,D.sl false false Ty.bool g.L,D.sl false false yy0.sl W,D.sl false false (Ty.int .u64) (Mi M)]);let yy2:=(Row.box 176 [D.sl false false yy0.sl W,D.sl false false (yy0.prod (Ty.bool.prod yy0.sl)) S,D.own 2 0 n (some n),D.own 3 0 ms.length none]);(decide (k< (↑C.length:Int))=true→(0:Int)≤k∧k< (↑C.length:Int)∧(0:Int)≤C.getD k.toNat yy0.dflt∧C.getD k.toNat yy0.dflt< (↑(Mi M).length:Int)∧(0:Int)≤C.getD k.toNat yy0.dflt∧C.getD k.toNat yy0.dflt< (↑n:Int)∧0+Int.toNat (C.getD k.toNat yy0.dflt)< (Mi m).length∧SameK (KK n97 2) (KK n97 2)∧G 2 (stOf 81 [1,3,25,26,27,61,62,63] [D.ptr 0 0 0,D.ptr 1 0 0,D.sl false false (yy0.prod (Ty.bool.prod yy0.sl)) S,D.v (Value.int .i64 (↑S.length:Int)),D.v (Value.int .i64 s),D.sl false false yy0 C,D.v (Value.int .i64 (↑C.length:Int)),D.v (Value.int .i64 (IntKind.i64.wrap (k+(1:Int))))] [Slot.live yy1,Slot.live yy2,Slot.live (Row.data 22 (Ty.int .u64) ((Mi m).set (0+Int.toNat (C.getD k.toNat yy0.dflt)) ((Mi M).getD (Int.toNat (C.getD k.toNat yy0.dflt)) (Ty.int .u64).dflt))),Slot.live (Row.nest (NK.mk 27 yy0.sl 0 3 yy0) ms none)]))∧(decide (k< (↑C.length:Int))=false→SameK (KK n97 0) (KK n97 0)∧G 0 (stOf 81 [1,3,25,26,27] [D.ptr 0 0 0,D.ptr 1 0 0,D.sl false false (yy0.prod (Ty.bool.prod yy0.sl)) S,D.v (Value.int .i64 (↑S.length:Int)),D.v (Value.int .i64 (IntKind.i64.wrap (s+(1:Int))))] [Slot.live yy1,Slot.live yy2,Slot.live (Row.data 22 (Ty.int .u64) (Mi m)),Slot.live (Row.nest (NK.mk 27 yy0.sl 0 3 yy0) ms none)]))
theorem e97c (g:Gr) (W:List (List Int)) (M:List Nat) (S:List Slt) (ms:List (List Int)) (n:Nat) (s:Int) (F:Fine W S M) (hn:M.length=n) (s0:0≤s) (s1:s<S.length) (C:List Int) (hC:(S.getD s.toNat (0,false,[])).2.2=C) (r1:List Nat) (r2:List (List Int)) (mE:List Nat) (hx:GetsK Tryd.prog Tryd.f143.results.toList [none] (KK n97) 0 (.ptr 0 0 0,[],[.box 176 [slW W,slS S,.own 1 0 n (some n),.own 2 0 r2.length none],.data 22 (.int .u64) (Mi r1),.nest kW r2 none]) 0 (stOf 81 [1,3,25,26,27] [.ptr 0 0 0,.ptr 1 0 0,slS S,.v (.int .i64 S.length),.v (.int .i64 (s+1))] [.live (.box 73 [.v (.int .i64 g.h),.v (.int .i64 g.w),.sl false false .bool g.B,.sl false false .bool g.R,.sl false false .bool g.L,slW W,slU M]),.live (.box 176 [slW W,slS S,.own 2 0 n (some n),.own 3 0 ms.length none]),.live (.data 22 (.int .u64) (Mi mE)),.live (.nest kW ms none)])) (z:Nat):∀(k:Int) (m:List Nat),0≤k→k+z=C.length→m.length=n→seatCells M (C.drop k.toNat) m=mE→GetsK Tryd.prog Tryd.f143.results.toList [none] (KK n97) 0 (.ptr 0 0 0,[],[.box 176 [slW W,slS S,.own 1 0 n (some n),.own 2 0 r2.length none],.data 22 (.int .u64) (Mi r1),.nest kW r2 none]) 2 (stOf 81 [1,3,25,26,27,61,62,63] [.ptr 0 0 0,.ptr 1 0 0,slS S,.v (.int .i64 S.length),.v (.int .i64 s),slI C,.v (.int .i64 C.length),.v (.int .i64 k)] [.live (.box 73 [.v (.int .i64 g.h),.v (.int .i64 g.w),.sl false false .bool g.B,.sl false false .bool g.R,.sl false false .bool g.L,slW W,slU M]),.live (.box 176 [slW W,slS S,.own 2 0 n (some n),.own 3 0 ms.length none]),.live (.data 22 (.int .u64) (Mi m)),.live (.nest kW ms none)]):=by
 have hs1:IntKind.i64.wrap (s+1)=s+1:=by have:=F.slots;exact wrG (by omega) (by omega)
 have hc1:=F.cells _ (getD_in (d:=(0,false,[])) (k:=s.toNat) (by omega))
 rw[hC] at hc1
 have hsl:=F.slots
 induction z with
 |zero=>
  intro k m k0 hk hm he
  rw[List.drop_eq_nil_of_le (by omega)] at he
  have he:m=mE:=he
  subst he
  refine gets_vc (flag [2000056] spNa) (fun k=> [[1,3,25,26,27],[1,3,5,6,25,26,27,32,33,34],[1,3,25,26,27,61,62,63]].getD k []) (fun k=>if k=1 then [⟨4030003,27,WT⟩,⟨6,3,.int .i64⟩] else if k<3 then [⟨4030003,27,WT⟩] else []) 400 (.fork (.hd 2) (.hd 0)) (V:=vq11 g W M S ms n s C k m) hmG (fun G R=>by kernel_rfl) ?_
  unfold vq11
  try dsimp only
  simp only[hs1]
  simp (disch:=omega) only[oo,oop,ne_eq,Ty.dflt,reduceCtorEq]
  repeat' (first|with_reducible refine And.intro ?_ ?_|intro _)
  all_goals first|rfl|omega|assumption|trivial|exact room3 (by omega)|exact room46 (by omega)|(exfalso;simp_all;done)|(exfalso;omega)|skip
 |succ z ih=>
  intro k m k0 hk hm he
  have hd:=drop_at (xs:=C) (i:=k) (0:Int) k0 (by omega)
  rw[hd] at he
  simp only[seatCells] at he
  have hk1:IntKind.i64.wrap (k+1)=k+1:=by have:=hc1.1;exact wrG (by omega) (by omega)
  have hc2:=hc1.2 _ (getD_in (d:=0) (k:=k.toNat) (l:=C) (by omega))
  obtain⟨c,hcc⟩:∃c,C.getD k.toNat 0=c:=⟨_,rfl⟩
  rw[hcc] at he hc2
  have hx2:=ih (k+1) (m.set c.toNat (M.getD c.toNat 0)) (by omega) (by omega) (by rw[List.length_set];exact hm) he
  refine gets_vc (flag [2000056] spNa) (fun k=> [[1,3,25,26,27],[1,3,5,6,25,26,27,32,33,34],[1,3,25,26,27,61,62,63]].getD k []) (fun k=>if k=1 then [⟨4030003,27,WT⟩,⟨6,3,.int .i64⟩] else if k<3 then [⟨4030003,27,WT⟩] else []) 400 (.fork (.hd 2) (.hd 0)) (V:=vq11 g W M S ms n s C k m) hmG (fun G R=>by kernel_rfl) ?_
  unfold vq11
  try dsimp only
  simp only[Ty.dflt,hk1,hcc,take_len,List.drop_zero,List.take_length,Mi_getD,Mi_len,Nt_Mi,Int.toNat_natCast,Mi_set,Nat.zero_add,Nat.sub_zero,orI_len,take_one,takeSn,Mi_take,takeL,cast_beq,List.length_append,List.length_cons,List.length_nil,List.length_set]
  simp (disch:=omega) only[oo,oop,ne_eq,Ty.dflt,reduceCtorEq]
  repeat' (first|with_reducible refine And.intro ?_ ?_|intro _)
  all_goals first|rfl|omega|assumption|trivial|exact room3 (by omega)|exact room46 (by omega)|(exfalso;simp_all;done)|(exfalso;omega)|skip
theorem e97w (g:Gr) (W:List (List Int)) (M:List Nat) (S:List Slt) (m:List Nat) (ms:List (List Int)) (n:Nat) (s:Int) (F:Fine W S M) (s0:0≤s) (s1:s<S.length) (x:Int) (d:Bool) (C:List Int) (f:List Int→Bool) (hf:f=fun w=>w.length==C.length) (hms:ms.length≤1000) (r1:List Nat) (r2:List (List Int)) (hx:GetsK Tryd.prog Tryd.f143.results.toList [none] (KK n97) 0 (.ptr 0 0 0,[],[.box 176 [slW W,slS S,.own 1 0 n (some n),.own 2 0 r2.length none],.data 22 (.int .u64) (Mi r1),.nest kW r2 none]) 2 (stOf 81 [1,3,25,26,27,61,62,63] [.ptr 0 0 0,.ptr 1 0 0,slS S,.v (.int .i64 S.length),.v (.int .i64 s),slI C,.v (.int .i64 C.length),.v (.int .i64 0)] [.live (.box 73 [.v (.int .i64 g.h),.v (.int .i64 g.w),.sl false false .bool g.B,.sl false false .bool g.R,.sl false false .bool g.L,slW W,slU M]),.live (.box 176 [slW W,slS S,.own 2 0 n (some n),.own 3 0 (ms++[idxF f 0 W]).length none]),.live (.data 22 (.int .u64) (Mi m)),.live (.nest kW (ms++[idxF f 0 W]) none)])) (z:Nat):∀(i:Int),0≤i→i+z=W.length→GetsK Tryd.prog Tryd.f143.results.toList [none] (KK n97) 0 (.ptr 0 0 0,[],[.box 176 [slW W,slS S,.own 1 0 n (some n),.own 2 0 r2.length none],.data 22 (.int .u64) (Mi r1),.nest kW r2 none]) 1 (stOf 81 [1,3,5,6,25,26,27,32,33,34] [.ptr 0 0 0,.ptr 1 0 0,.ptr 2 0 0,.own 3 0 (idxF f 0 (W.take i.toNat)).length none,slS S,.v (.int .i64 S.length),.v (.int .i64 s),slW W,.v (.int .i64 W.length),.v (.int .i64 i)] [.live (.box 73 [.v (.int .i64 g.h),.v (.int .i64 g.w),.sl false false .bool g.B,.sl false false .bool g.R,.sl false false .bool g.L,slW W,slU M]),.live (.box 176 [slW W,slS S,.own 4 0 n (some n),.own 5 0 ms.length none]),.live (.box 50 [.v (.int .i64 x),.v (.bool d),slI C]),.live (.data 3 (.int .i64) (idxF f 0 (W.take i.toNat))),.live (.data 22 (.int .u64) (Mi m)),.live (.nest kW ms none)]):=by
 have hfw:=F.words
 induction z with
 |zero=>
  intro i i0 hi
  rw[List.take_of_length_le (by omega)]
  rw[List.length_append,List.length_cons,List.length_nil] at hx
  refine gets_vc (flag [2000056] spNa) (fun k=> [[1,3,25,26,27],[1,3,5,6,25,26,27,32,33,34],[1,3,25,26,27,61,62,63]].getD k []) (fun k=>if k=1 then [⟨4030003,27,WT⟩,⟨6,3,.int .i64⟩] else if k<3 then [⟨4030003,27,WT⟩] else []) 400 (.fork (.fork (.hd 1) (.hd 1)) (.hd 2)) (V:=fun G R=>let yy0:=(Ty.int .i64);let yy1:=(Row.box 73 [D.v (Value.int .i64 g.h),D.v (Value.int .i64 g.w),D.sl false false Ty.bool g.B,D.sl false false Ty.bool g.R,D.sl false false Ty.bool g.L,D.sl false false yy0.sl W,D.sl false false (Ty.int .u64) (Mi M)]);let yy2:=(yy0.prod (Ty.bool.prod yy0.sl));let yy3:=(idxF f (0:Int) W);let yy4:=(Row.box 176 [D.sl false false yy0.sl W,D.sl false false yy2 S,D.own 4 0 n (some n),D.own 5 0 ms.length none]);let yy5:=(Row.box 50 [D.v (Value.int .i64 x),D.v (Value.bool d),D.sl false false yy0 C]);let yy6:=(Value.int .i64 (↑S.length:Int));let yy7:=(Row.data 22 (Ty.int .u64) (Mi m));let yy8:=((↑(List.length (W.getD i.toNat yy0.sl.dflt)):Int)==(↑C.length:Int));(decide (i< (↑W.length:Int))=true→(0:Int)≤i∧i< (↑W.length:Int)∧(yy8=true→roomy Tryd.prog 3 (yy3.length+1)∧SameK (KK n97 1) (KK n97 1)∧G 1 (stOf 81 [1,3,5,6,25,26,27,32,33,34] [D.ptr 0 0 0,D.ptr 1 0 0,D.ptr 2 0 0,D.own 3 0 (yy3.length+1) none,D.sl false false yy2 S,D.v yy6,D.v (Value.int .i64 s),D.sl false false yy0.sl W,D.v (Value.int .i64 (↑W.length:Int)),D.v (Value.int .i64 (IntKind.i64.wrap (i+(1:Int))))] [Slot.live yy1,Slot.live yy4,Slot.live yy5,Slot.live (Row.data 3 yy0 (List.take yy3.length (List.drop 0 yy3)++List.take 1 (List.drop 0 [i]))),Slot.live yy7,Slot.live (Row.nest (NK.mk 27 yy0.sl 0 3 yy0) ms none)]))∧(yy8=false→SameK (KK n97 1) (KK n97 1)∧G 1 (stOf 81 [1,3,5,6,25,26,27,32,33,34] [D.ptr 0 0 0,D.ptr 1 0 0,D.ptr 2 0 0,D.own 3 0 yy3.length none,D.sl false false yy2 S,D.v yy6,D.v (Value.int .i64 s),D.sl false false yy0.sl W,D.v (Value.int .i64 (↑W.length:Int)),D.v (Value.int .i64 (IntKind.i64.wrap (i+(1:Int))))] [Slot.live yy1,Slot.live yy4,Slot.live yy5,Slot.live (Row.data 3 yy0 yy3),Slot.live yy7,Slot.live (Row.nest (NK.mk 27 yy0.sl 0 3 yy0) ms none)])))∧(decide (i< (↑W.length:Int))=false→1=1∧roomy Tryd.prog 27 (ms.length+1)∧SameK (KK n97 2) (KK n97 2)∧G 2 (stOf 81 [1,3,25,26,27,61,62,63] [D.ptr 0 0 0,D.ptr 1 0 0,D.sl false false yy2 S,D.v yy6,D.v (Value.int .i64 s),D.sl false false yy0 C,D.v (Value.int .i64 (↑C.length:Int)),D.v (Value.int .i64 (0:Int))] [Slot.live yy1,Slot.live (Row.box 176 [D.sl false false yy0.sl W,D.sl false false yy2 S,D.own 2 0 n (some n),D.own 3 0 (ms.length+1) none]),Slot.live yy7,Slot.live (Row.nest (NK.mk 27 yy0.sl 0 3 yy0) (List.take ms.length ms++[List.take yy3.length (List.drop 0 yy3)]) none)]))) hmG (fun G R=>by kernel_rfl) ?_
  try dsimp only
  simp only[take_len,List.drop_zero,List.take_length,Mi_getD,Mi_len,Nt_Mi,Int.toNat_natCast,Mi_set,Nat.zero_add,Nat.sub_zero,orI_len,take_one,takeSn,Mi_take,takeL,cast_beq,List.length_append,List.length_cons,List.length_nil,List.length_set]
  simp (disch:=omega) only[oo,oop,ne_eq,Ty.dflt,reduceCtorEq]
  repeat' (first|with_reducible refine And.intro ?_ ?_|intro _)
  all_goals first|rfl|omega|assumption|trivial|exact room3 (by omega)|exact room46 (by omega)|(exfalso;simp_all;done)|(exfalso;omega)|skip
 |succ z ih=>
  intro i i0 hi
  have hi1:IntKind.i64.wrap (i+1)=i+1:=wrG (by omega) (by omega)
  have ht:=take_succ_at ([]:List Int) W i0 (by omega)
  obtain⟨w,hw⟩:∃w,W.getD i.toNat []=w:=⟨_,rfl⟩
  rw[hw] at ht
  have htl:(W.take i.toNat).length=i.toNat:=by rw[List.length_take];omega
  have hil:(idxF f 0 (W.take i.toNat)).length≤i.toNat:=Nat.le_trans (idx_len f _ 0) (Nat.le_of_eq htl)
  have hx2:=ih (i+1) (by omega) (by omega)
  rw[ht,idx_snoc,htl,show(0:Int)+(i.toNat:Int)=i by omega] at hx2
  obtain⟨l,hl⟩:∃l,idxF f 0 (W.take i.toNat)=l:=⟨_,rfl⟩
  rw[hl] at hx2 hil⊢
  have hfw2:(w.length==C.length)=f w:=by rw[hf]
  refine gets_vc (flag [2000056] spNa) (fun k=> [[1,3,25,26,27],[1,3,5,6,25,26,27,32,33,34],[1,3,25,26,27,61,62,63]].getD k []) (fun k=>if k=1 then [⟨4030003,27,WT⟩,⟨6,3,.int .i64⟩] else if k<3 then [⟨4030003,27,WT⟩] else []) 400 (.fork (.fork (.hd 1) (.hd 1)) (.hd 2)) (V:=fun G R=>let yy0:=(Ty.int .i64);let yy1:=(Row.box 73 [D.v (Value.int .i64 g.h),D.v (Value.int .i64 g.w),D.sl false false Ty.bool g.B,D.sl false false Ty.bool g.R,D.sl false false Ty.bool g.L,D.sl false false yy0.sl W,D.sl false false (Ty.int .u64) (Mi M)]);let yy2:=(yy0.prod (Ty.bool.prod yy0.sl));let yy3:=(Row.box 176 [D.sl false false yy0.sl W,D.sl false false yy2 S,D.own 4 0 n (some n),D.own 5 0 ms.length none]);let yy4:=(Row.box 50 [D.v (Value.int .i64 x),D.v (Value.bool d),D.sl false false yy0 C]);let yy5:=(Value.int .i64 (↑S.length:Int));let yy6:=(Row.data 22 (Ty.int .u64) (Mi m));let yy7:=((↑(List.length (W.getD i.toNat yy0.sl.dflt)):Int)==(↑C.length:Int));(decide (i< (↑W.length:Int))=true→(0:Int)≤i∧i< (↑W.length:Int)∧(yy7=true→roomy Tryd.prog 3 (l.length+1)∧SameK (KK n97 1) (KK n97 1)∧G 1 (stOf 81 [1,3,5,6,25,26,27,32,33,34] [D.ptr 0 0 0,D.ptr 1 0 0,D.ptr 2 0 0,D.own 3 0 (l.length+1) none,D.sl false false yy2 S,D.v yy5,D.v (Value.int .i64 s),D.sl false false yy0.sl W,D.v (Value.int .i64 (↑W.length:Int)),D.v (Value.int .i64 (IntKind.i64.wrap (i+(1:Int))))] [Slot.live yy1,Slot.live yy3,Slot.live yy4,Slot.live (Row.data 3 yy0 (List.take l.length (List.drop 0 l)++List.take 1 (List.drop 0 [i]))),Slot.live yy6,Slot.live (Row.nest (NK.mk 27 yy0.sl 0 3 yy0) ms none)]))∧(yy7=false→SameK (KK n97 1) (KK n97 1)∧G 1 (stOf 81 [1,3,5,6,25,26,27,32,33,34] [D.ptr 0 0 0,D.ptr 1 0 0,D.ptr 2 0 0,D.own 3 0 l.length none,D.sl false false yy2 S,D.v yy5,D.v (Value.int .i64 s),D.sl false false yy0.sl W,D.v (Value.int .i64 (↑W.length:Int)),D.v (Value.int .i64 (IntKind.i64.wrap (i+(1:Int))))] [Slot.live yy1,Slot.live yy3,Slot.live yy4,Slot.live (Row.data 3 yy0 l),Slot.live yy6,Slot.live (Row.nest (NK.mk 27 yy0.sl 0 3 yy0) ms none)])))∧(decide (i< (↑W.length:Int))=false→1=1∧roomy Tryd.prog 27 (ms.length+1)∧SameK (KK n97 2) (KK n97 2)∧G 2 (stOf 81 [1,3,25,26,27,61,62,63] [D.ptr 0 0 0,D.ptr 1 0 0,D.sl false false yy2 S,D.v yy5,D.v (Value.int .i64 s),D.sl false false yy0 C,D.v (Value.int .i64 (↑C.length:Int)),D.v (Value.int .i64 (0:Int))] [Slot.live yy1,Slot.live (Row.box 176 [D.sl false false yy0.sl W,D.sl false false yy2 S,D.own 2 0 n (some n),D.own 3 0 (ms.length+1) none]),Slot.live yy6,Slot.live (Row.nest (NK.mk 27 yy0.sl 0 3 yy0) (List.take ms.length ms++[List.take l.length (List.drop 0 l)]) none)]))) hmG (fun G R=>by kernel_rfl) ?_
  try dsimp only
  simp only[Ty.dflt,hi1,hw,take_len,List.drop_zero,List.take_length,Mi_getD,Mi_len,Nt_Mi,Int.toNat_natCast,Mi_set,Nat.zero_add,Nat.sub_zero,orI_len,take_one,takeSn,Mi_take,takeL,cast_beq,List.length_append,List.length_cons,List.length_nil,List.length_set,hfw2]
  rcases Bool.eq_false_or_eq_true (f w) with h|h
  ·rw[h,if_pos rfl,List.length_append,List.length_cons,List.length_nil] at hx2
   rw[h]
   simp (disch:=omega) only[oo,oop,ne_eq,Ty.dflt,reduceCtorEq]
   repeat' (first|with_reducible refine And.intro ?_ ?_|intro _)
   all_goals first|rfl|omega|assumption|trivial|exact room3 (by omega)|exact room46 (by omega)|(exfalso;simp_all;done)|(exfalso;omega)|skip
  ·rw[h,if_neg (by simp),List.append_nil] at hx2
   rw[h]
   simp (disch:=omega) only[oo,oop,ne_eq,Ty.dflt,reduceCtorEq]
   repeat' (first|with_reducible refine And.intro ?_ ?_|intro _)
   all_goals first|rfl|omega|assumption|trivial|exact room3 (by omega)|exact room46 (by omega)|(exfalso;simp_all;done)|(exfalso;omega)|skip
def vq12 (g:Gr) (W:List (List Int)) (M:List Nat) (S:List Slt) (n:Nat) (s:Int) (m:List Nat) (ms:List (List Int)) (G:Nat→St→Prop) (R:D×List (Option Row)×List Row→Prop):Prop:=let yy0:=(Ty.int .i64);let yy1:=(yy0.prod (Ty.bool.prod yy0.sl));(decide (s< (↑S.length:Int))=true→(0:Int)≤s∧s< (↑S.length:Int)∧SameK (KK n97 1) (KK n97 1)∧G 1 (stOf 81 [1,3,5,6,25,26,27,32,33,34] [D.ptr 0 0 0,D.ptr 1 0 0,D.ptr 2 0 0,D.own 3 0 0 none,D.sl false false yy1 S,D.v (Value.int .i64 (↑S.length:Int)),D.v (Value.int .i64 s),D.sl false false yy0.sl W,D.v (Value.int .i64 (↑W.length:Int)),D.v (Value.int .i64 (0:Int))] [Slot.live (Row.box 73 [D.v (Value.int .i64 g.h),D.v (Value.int .i64 g.w),D.sl false false Ty.bool g.B,D.sl false false Ty.bool g.R,D.sl false false Ty.bool g.L,D.sl false false yy0.sl W,D.sl false false (Ty.int .u64) (Mi M)]),Slot.live (Row.box 176 [D.sl false false yy0.sl W,D.sl false false yy1 S,D.own 4 0 n (some n),D.own 5 0 ms.length none]),Slot.live (Row.box 50 [D.v (Value.int .i64 (S.getD s.toNat yy1.dflt).fst),D.v (Value.bool (S.getD s.toNat yy1.dflt).snd.fst),D.sl false false yy0 (S.getD s.toNat yy1.dflt).snd.snd]),Slot.live (Row.data 3 yy0 []),Slot.live (Row.data 22 (Ty.int .u64) (Mi m)),Slot.live (Row.nest (NK.mk 27 yy0.sl 0 3 yy0) ms none)]))∧(decide (s< (↑S.length:Int))=false→R (D.ptr 0 0 0,[],[Row.box 176 [D.sl false false yy0.sl W,D.sl false false yy1 S,D.own 1 0 n (some n),D.own 2 0 ms.length none],Row.data 22 (Ty.int .u64) (Mi m),Row.nest (NK.mk 27 yy0.sl 0 3 yy0) ms none]))
theorem e97 (g:Gr) (W:List (List Int)) (M:List Nat) (S:List Slt) (n:Nat) (F:Fine W S M) (hn:M.length=n) (r1:List Nat) (r2:List (List Int)) (h2:mayF W S=r2) (z:Nat):∀(s:Int) (m:List Nat) (ms:List (List Int)),0≤s→s+z=S.length→m.length=n→seatSlots M (S.drop s.toNat) m=r1→ms=mayF W (S.take s.toNat)→GetsK Tryd.prog Tryd.f143.results.toList [none] (KK n97) 0 (.ptr 0 0 0,[],[.box 176 [slW W,slS S,.own 1 0 n (some n),.own 2 0 r2.length none],.data 22 (.int .u64) (Mi r1),.nest kW r2 none]) 0 (stOf 81 [1,3,25,26,27] [.ptr 0 0 0,.ptr 1 0 0,slS S,.v (.int .i64 S.length),.v (.int .i64 s)] [.live (.box 73 [.v (.int .i64 g.h),.v (.int .i64 g.w),.sl false false .bool g.B,.sl false false .bool g.R,.sl false false .bool g.L,slW W,slU M]),.live (.box 176 [slW W,slS S,.own 2 0 n (some n),.own 3 0 ms.length none]),.live (.data 22 (.int .u64) (Mi m)),.live (.nest kW ms none)]):=by
 have hsl:=F.slots
 induction z with
 |zero=>
  intro s m ms s0 hs hm h1 hms
  rw[List.drop_eq_nil_of_le (by omega)] at h1
  rw[List.take_of_length_le (by omega),h2] at hms
  have h1:m=r1:=h1
  subst h1;subst hms
  refine gets_vc (flag [2000056] spNa) (fun k=> [[1,3,25,26,27],[1,3,5,6,25,26,27,32,33,34],[1,3,25,26,27,61,62,63]].getD k []) (fun k=>if k=1 then [⟨4030003,27,WT⟩,⟨6,3,.int .i64⟩] else if k<3 then [⟨4030003,27,WT⟩] else []) 400 (.fork (.hd 1) .stop) (V:=vq12 g W M S n s m ms) hmG (fun G R=>by kernel_rfl) ?_
  unfold vq12
  try dsimp only
  simp (disch:=omega) only[oo,oop,ne_eq,Ty.dflt,reduceCtorEq]
  repeat' (first|with_reducible refine And.intro ?_ ?_|intro _)
  all_goals first|rfl|omega|assumption|trivial|exact room3 (by omega)|exact room46 (by omega)|(exfalso;simp_all;done)|(exfalso;omega)|skip
 |succ z ih=>
  intro s m ms s0 hs hm h1 hms
  have hd:=drop_at (xs:=S) (i:=s) ((0,false,[]):Slt) s0 (by omega)
  have ht:=take_succ_at ((0,false,[]):Slt) S s0 (by omega)
  obtain⟨C,hC⟩:∃C,(S.getD s.toNat (0,false,[])).2.2=C:=⟨_,rfl⟩
  rw[hd] at h1
  simp only[seatSlots,hC] at h1
  have hml:ms.length≤1000:=by rw[hms,may_len,List.length_take];omega
  have hx:=ih (s+1) (seatCells M C m) (ms++[idxF (fun w=>w.length==C.length) 0 W]) (by omega) (by omega) (by rw[seatCells_len];exact hm) h1 (by rw[ht,may_snoc,hms,hC])
  have hx3:=e97c g W M S (ms++[idxF (fun w=>w.length==C.length) 0 W]) n s F hn s0 (by omega) C hC r1 r2 _ hx C.length 0 m (by omega) (by omega) hm rfl
  have hx1:=e97w g W M S m ms n s F s0 (by omega) (S.getD s.toNat (0,false,[])).1 (S.getD s.toNat (0,false,[])).2.1 C (fun w=>w.length==C.length) rfl hml r1 r2 hx3 W.length 0 (by omega) (by omega)
  simp only[show(0:Int).toNat=0 by rfl,List.take_zero,idxF,List.length_nil] at hx1
  refine gets_vc (flag [2000056] spNa) (fun k=> [[1,3,25,26,27],[1,3,5,6,25,26,27,32,33,34],[1,3,25,26,27,61,62,63]].getD k []) (fun k=>if k=1 then [⟨4030003,27,WT⟩,⟨6,3,.int .i64⟩] else if k<3 then [⟨4030003,27,WT⟩] else []) 400 (.fork (.hd 1) .stop) (V:=vq12 g W M S n s m ms) hmG (fun G R=>by kernel_rfl) ?_
  unfold vq12
  try dsimp only
  simp only[Ty.dflt,hC]
  simp (disch:=omega) only[oo,oop,ne_eq,Ty.dflt,reduceCtorEq]
  repeat' (first|with_reducible refine And.intro ?_ ?_|intro _)
  all_goals first|rfl|omega|assumption|trivial|exact room3 (by omega)|exact room46 (by omega)|(exfalso;simp_all;done)|(exfalso;omega)|skip
theorem d97 (g:Gr) (W:List (List Int)) (M:List Nat) (F:Fine W (slotsF g) M):Con Tryd.prog 143 [] [.agg [.v (.int .i64 g.h),.v (.int .i64 g.w),.sl false false .bool g.B,.sl false false .bool g.R,.sl false false .bool g.L,slW W,slU M]] (.ptr 0 0 0) [] [.box 176 [slW W,slS (slotsF g),.own 1 0 M.length (some M.length),.own 2 0 (mayF W (slotsF g)).length none],.data 22 (.int .u64) (Mi (m0F ⟨g,W,M⟩)),.nest kW (mayF W (slotsF g)) none]:=by
 refine con_vc (how:=[none]) (c:=n97) (K:=(KK n97)) (flag [2000056] spNa) (fun k=> [[1,3,25,26,27],[1,3,5,6,25,26,27,32,33,34],[1,3,25,26,27,61,62,63]].getD k []) (fun k=>if k=1 then [⟨4030003,27,WT⟩,⟨6,3,.int .i64⟩] else if k<3 then [⟨4030003,27,WT⟩] else []) 400 (.hd 0) (V:=fun G R=>let yy0:=(Ty.int .i64);let yy1:=(↑(Mi M).length:Int);Con Tryd.prog 36 [] [D.agg [D.v (Value.int .i64 g.h),D.v (Value.int .i64 g.w),D.sl false false Ty.bool g.B,D.sl false false Ty.bool g.R,D.sl false false Ty.bool g.L]] (D.sl false false (yy0.prod (Ty.bool.prod yy0.sl)) (slotsF g)) [] []∧Value.int .i64 g.h=Value.int .i64 g.h∧Value.int .i64 g.w=Value.int .i64 g.w∧g.B=g.B∧g.R=g.R∧g.L=g.L∧(0:Int)≤yy1∧yy1≤yy1∧yy1≤(9223372036854775807:Int)∧yy1.toNat*8≤281474976710656∧SameK (KK n97 0) (KK n97 0)∧G 0 (stOf 81 [1,3,25,26,27] [D.ptr 0 0 0,D.ptr 1 0 0,D.sl false false (yy0.prod (Ty.bool.prod yy0.sl)) (slotsF g),D.v (Value.int .i64 (↑(slotsF g).length:Int)),D.v (Value.int .i64 (0:Int))] [Slot.live (Row.box 73 [D.v (Value.int .i64 g.h),D.v (Value.int .i64 g.w),D.sl false false Ty.bool g.B,D.sl false false Ty.bool g.R,D.sl false false Ty.bool g.L,D.sl false false yy0.sl W,D.sl false false (Ty.int .u64) (Mi M)]),Slot.live (Row.box 176 [D.sl false false yy0.sl W,D.sl false false (yy0.prod (Ty.bool.prod yy0.sl)) (slotsF g),D.own 2 0 yy1.toNat (some yy1.toNat),D.own 3 0 0 none]),Slot.live (Row.data 22 (Ty.int .u64) (List.replicate yy1.toNat (0:Int))),Slot.live (Row.nest (NK.mk 27 yy0.sl 0 3 yy0) [] none)])) hmG Tryd.func143 (by kernel_rfl) (by kernel_rfl) (fun G R=>by kernel_rfl) ?_
 try dsimp only
 try dsimp only
 have c1:=d65s g
 have hsz:=F.size
 have hr:List.replicate M.length (0:Int)=Mi (List.replicate M.length 0):=Mi_rep _
 have hx:=e97 g W M (slotsF g) M.length F rfl _ _ rfl (slotsF g).length 0 (List.replicate M.length 0) [] (by omega) (by omega) (by simp) rfl rfl
 simp only[take_len,List.drop_zero,List.take_length,Mi_getD,Mi_len,Nt_Mi,Int.toNat_natCast,Mi_set,Nat.zero_add,Nat.sub_zero,orI_len,take_one,takeSn,Mi_take,takeL,cast_beq,List.length_append,List.length_cons,List.length_nil,List.length_set,hr]
 simp (disch:=omega) only[oo,oop,ne_eq,Ty.dflt,reduceCtorEq]
 repeat' (first|with_reducible refine And.intro ?_ ?_|intro _)
 all_goals first|rfl|omega|assumption|trivial|exact room3 (by omega)|exact room46 (by omega)|(exfalso;simp_all;done)|(exfalso;omega)|skip
end Go.Proofs.YtnakmganodkliaaDoorAm
set_option maxRecDepth 100000
namespace Go.Proofs.YtnakmganodkliaaDoorAm
open Go
def vq13 (S:List (Int×Bool×List Int)) (s:Int) (cells:List Int) (k:Int) (A:List (Int×Int)) (E:List (Int×Int)) (G:Nat→St→Prop) (R:D×List (Option Row)×List Row→Prop):Prop:=let yy0:=(Ty.int .i64);(decide (k< (↑cells.length:Int))=true→(0:Int)≤k∧k< (↑cells.length:Int)∧(0:Int)≤(0:Int)∧(0:Int)< (↑2:Int)∧(0:Int)≤cells.getD k.toNat yy0.dflt∧cells.getD k.toNat yy0.dflt< (↑A.length:Int)∧0+Int.toNat (cells.getD k.toNat yy0.dflt)<A.length∧SameK (KK q77 2) (KK q77 2)∧G 2 (stOf 63 [4,5,7,32,33,34,42,43,44] [D.ptr 0 0 0,D.v (Value.int .i64 s),D.v (Value.int .i64 (0:Int)),D.own 1 0 S.length none,D.v (Value.int .i64 (↑S.length:Int)),D.v (Value.int .i64 s),D.sl false false yy0 cells,D.v (Value.int .i64 (↑cells.length:Int)),D.v (Value.int .i64 (IntKind.i64.wrap (k+(1:Int))))] [Slot.live (Row.box 111 [D.own 2 0 A.length none,D.own 3 0 E.length none]),Slot.live (Row.data 50 (yy0.prod (Ty.bool.prod yy0.sl)) S),Slot.live (Row.data 61 (yy0.prod yy0) (A.set (0+Int.toNat (cells.getD k.toNat yy0.dflt)) (s,k))),Slot.live (Row.data 61 (yy0.prod yy0) E)]))∧(decide (k< (↑cells.length:Int))=false→SameK (KK q77 1) (KK q77 1)∧G 1 (stOf 63 [4,32,33,34] [D.ptr 0 0 0,D.own 1 0 S.length none,D.v (Value.int .i64 (↑S.length:Int)),D.v (Value.int .i64 (IntKind.i64.wrap (s+(1:Int))))] [Slot.live (Row.box 111 [D.own 2 0 A.length none,D.own 3 0 E.length none]),Slot.live (Row.data 50 (yy0.prod (Ty.bool.prod yy0.sl)) S),Slot.live (Row.data 61 (yy0.prod yy0) A),Slot.live (Row.data 61 (yy0.prod yy0) E)]))
theorem e77_20 (S:List (Int×Bool×List Int)) (s:Int) (cells:List Int) (r:D×List (Option Row)×List Row) (hs:0≤s∧s≤600) (hl:cells.length≤300) (m:Nat):
  ∀(k:Int) (A E:List (Int×Int)),0≤k→k+m=cells.length→(∀c∈cells,0≤c∧c< (A.length:Int))→
  GetsK Tryd.prog Tryd.f40.results.toList [none,none] (KK q77) 0 r 1 (stOf 63 [4,32,33,34] [.ptr 0 0 0,.own 1 0 S.length none,.v (.int .i64 S.length),.v (.int .i64 (s+1))] [.live (.box 111 [.own 2 0 (layCells s k (cells.drop k.toNat) A).length none,.own 3 0 E.length none]),.live (.data 50 SlT S),.live (.data 61 SeT (layCells s k (cells.drop k.toNat) A)),.live (.data 61 SeT E)])→GetsK Tryd.prog Tryd.f40.results.toList [none,none] (KK q77) 0 r 2 (stOf 63 [4,5,7,32,33,34,42,43,44] [.ptr 0 0 0,.v (.int .i64 s),.v (.int .i64 0),.own 1 0 S.length none,.v (.int .i64 S.length),.v (.int .i64 s),.sl false false (.int .i64) cells,.v (.int .i64 cells.length),.v (.int .i64 k)] [.live (.box 111 [.own 2 0 A.length none,.own 3 0 E.length none]),.live (.data 50 SlT S),.live (.data 61 SeT A),.live (.data 61 SeT E)]):=by
 induction m with
 |zero=>
  intro k A E k0 km hc cont
  rw[List.drop_eq_nil_of_le (by omega)] at cont
  simp only[layCells] at cont
  refine gets_vc spSe (fun k=> [[1,4,15,16],[4,32,33,34],[4,5,7,32,33,34,42,43,44]].getD k []) (fun k=>if k=99 then [⟨2,61,SeT⟩,⟨3,61,SeT⟩] else []) 400 (.fork (.hd 2) (.hd 1)) (V:=vq13 S s cells k A E) hmG (fun G R=>by kernel_rfl) ?_
  unfold vq13
  try dsimp only
  simp (disch:=omega) only[oo,oop,ne_eq,Ty.dflt,reduceCtorEq]
  repeat' (first|with_reducible refine And.intro ?_ ?_|intro _)
  all_goals first|rfl|omega|assumption|trivial|exact room104 (by omega)|(exfalso;simp_all;done)|skip
 |succ m ih=>
  intro k A E k0 km hc cont
  have hd:=drop_at (xs:=cells) (i:=k) (0:Int) k0 (by omega)
  have hm:cells.getD k.toNat 0∈cells:=List.mem_of_mem_drop (i:=k.toNat) (by rw[hd];exact List.mem_cons_self)
  have hcc:=hc _ hm
  rw[hd] at cont
  simp only[layCells] at cont
  have hx:=ih (k+1) (A.set (cells.getD k.toNat 0).toNat (s,k)) E (by omega) (by omega) (by rw[List.length_set];exact hc) cont
  rw[List.length_set] at hx
  refine gets_vc spSe (fun k=> [[1,4,15,16],[4,32,33,34],[4,5,7,32,33,34,42,43,44]].getD k []) (fun k=>if k=99 then [⟨2,61,SeT⟩,⟨3,61,SeT⟩] else []) 400 (.fork (.hd 2) (.hd 1)) (V:=vq13 S s cells k A E) hmG (fun G R=>by kernel_rfl) ?_
  unfold vq13
  try dsimp only
  simp only[Ty.dflt,Nat.zero_add]
  simp (disch:=omega) only[oo,oop,ne_eq,Ty.dflt,reduceCtorEq]
  repeat' (first|with_reducible refine And.intro ?_ ?_|intro _)
  all_goals first|rfl|omega|assumption|trivial|exact room104 (by omega)|(exfalso;simp_all;done)|skip
def vq14 (S:List (Int×Bool×List Int)) (s:Int) (cells:List Int) (k:Int) (A:List (Int×Int)) (E:List (Int×Int)) (G:Nat→St→Prop) (R:D×List (Option Row)×List Row→Prop):Prop:=let yy0:=(Ty.int .i64);(decide (k< (↑cells.length:Int))=true→(0:Int)≤k∧k< (↑cells.length:Int)∧(0:Int)≤(1:Int)∧(1:Int)< (↑2:Int)∧(0:Int)≤cells.getD k.toNat yy0.dflt∧cells.getD k.toNat yy0.dflt< (↑E.length:Int)∧0+Int.toNat (cells.getD k.toNat yy0.dflt)<E.length∧SameK (KK q77 2) (KK q77 2)∧G 2 (stOf 63 [4,5,7,32,33,34,42,43,44] [D.ptr 0 0 0,D.v (Value.int .i64 s),D.v (Value.int .i64 (1:Int)),D.own 1 0 S.length none,D.v (Value.int .i64 (↑S.length:Int)),D.v (Value.int .i64 s),D.sl false false yy0 cells,D.v (Value.int .i64 (↑cells.length:Int)),D.v (Value.int .i64 (IntKind.i64.wrap (k+(1:Int))))] [Slot.live (Row.box 111 [D.own 2 0 A.length none,D.own 3 0 E.length none]),Slot.live (Row.data 50 (yy0.prod (Ty.bool.prod yy0.sl)) S),Slot.live (Row.data 61 (yy0.prod yy0) A),Slot.live (Row.data 61 (yy0.prod yy0) (E.set (0+Int.toNat (cells.getD k.toNat yy0.dflt)) (s,k)))]))∧(decide (k< (↑cells.length:Int))=false→SameK (KK q77 1) (KK q77 1)∧G 1 (stOf 63 [4,32,33,34] [D.ptr 0 0 0,D.own 1 0 S.length none,D.v (Value.int .i64 (↑S.length:Int)),D.v (Value.int .i64 (IntKind.i64.wrap (s+(1:Int))))] [Slot.live (Row.box 111 [D.own 2 0 A.length none,D.own 3 0 E.length none]),Slot.live (Row.data 50 (yy0.prod (Ty.bool.prod yy0.sl)) S),Slot.live (Row.data 61 (yy0.prod yy0) A),Slot.live (Row.data 61 (yy0.prod yy0) E)]))
theorem e77_21 (S:List (Int×Bool×List Int)) (s:Int) (cells:List Int) (r:D×List (Option Row)×List Row) (hs:0≤s∧s≤600) (hl:cells.length≤300) (m:Nat):
  ∀(k:Int) (A E:List (Int×Int)),0≤k→k+m=cells.length→(∀c∈cells,0≤c∧c< (E.length:Int))→
  GetsK Tryd.prog Tryd.f40.results.toList [none,none] (KK q77) 0 r 1 (stOf 63 [4,32,33,34] [.ptr 0 0 0,.own 1 0 S.length none,.v (.int .i64 S.length),.v (.int .i64 (s+1))] [.live (.box 111 [.own 2 0 A.length none,.own 3 0 (layCells s k (cells.drop k.toNat) E).length none]),.live (.data 50 SlT S),.live (.data 61 SeT A),.live (.data 61 SeT (layCells s k (cells.drop k.toNat) E))])→GetsK Tryd.prog Tryd.f40.results.toList [none,none] (KK q77) 0 r 2 (stOf 63 [4,5,7,32,33,34,42,43,44] [.ptr 0 0 0,.v (.int .i64 s),.v (.int .i64 1),.own 1 0 S.length none,.v (.int .i64 S.length),.v (.int .i64 s),.sl false false (.int .i64) cells,.v (.int .i64 cells.length),.v (.int .i64 k)] [.live (.box 111 [.own 2 0 A.length none,.own 3 0 E.length none]),.live (.data 50 SlT S),.live (.data 61 SeT A),.live (.data 61 SeT E)]):=by
 induction m with
 |zero=>
  intro k A E k0 km hc cont
  rw[List.drop_eq_nil_of_le (by omega)] at cont
  simp only[layCells] at cont
  refine gets_vc spSe (fun k=> [[1,4,15,16],[4,32,33,34],[4,5,7,32,33,34,42,43,44]].getD k []) (fun k=>if k=99 then [⟨2,61,SeT⟩,⟨3,61,SeT⟩] else []) 400 (.fork (.hd 2) (.hd 1)) (V:=vq14 S s cells k A E) hmG (fun G R=>by kernel_rfl) ?_
  unfold vq14
  try dsimp only
  simp (disch:=omega) only[oo,oop,ne_eq,Ty.dflt,reduceCtorEq]
  repeat' (first|with_reducible refine And.intro ?_ ?_|intro _)
  all_goals first|rfl|omega|assumption|trivial|exact room104 (by omega)|(exfalso;simp_all;done)|skip
 |succ m ih=>
  intro k A E k0 km hc cont
  have hd:=drop_at (xs:=cells) (i:=k) (0:Int) k0 (by omega)
  have hm:cells.getD k.toNat 0∈cells:=List.mem_of_mem_drop (i:=k.toNat) (by rw[hd];exact List.mem_cons_self)
  have hcc:=hc _ hm
  rw[hd] at cont
  simp only[layCells] at cont
  have hx:=ih (k+1) A (E.set (cells.getD k.toNat 0).toNat (s,k)) (by omega) (by omega) (by rw[List.length_set];exact hc) cont
  rw[List.length_set] at hx
  refine gets_vc spSe (fun k=> [[1,4,15,16],[4,32,33,34],[4,5,7,32,33,34,42,43,44]].getD k []) (fun k=>if k=99 then [⟨2,61,SeT⟩,⟨3,61,SeT⟩] else []) 400 (.fork (.hd 2) (.hd 1)) (V:=vq14 S s cells k A E) hmG (fun G R=>by kernel_rfl) ?_
  unfold vq14
  try dsimp only
  simp only[Ty.dflt,Nat.zero_add]
  simp (disch:=omega) only[oo,oop,ne_eq,Ty.dflt,reduceCtorEq]
  repeat' (first|with_reducible refine And.intro ?_ ?_|intro _)
  all_goals first|rfl|omega|assumption|trivial|exact room104 (by omega)|(exfalso;simp_all;done)|skip
def vq15 (S:List (Int×Bool×List Int)) (s:Int) (A:List (Int×Int)) (E:List (Int×Int)) (G:Nat→St→Prop) (R:D×List (Option Row)×List Row→Prop):Prop:=let yy0:=(Ty.int .i64);let yy1:=(S.getD (0+s.toNat) (yy0.prod (Ty.bool.prod yy0.sl)).dflt);(decide (s< (↑S.length:Int))=true→(0:Int)≤s∧s< (↑S.length:Int)∧0+s.toNat<S.length∧(yy1.snd.fst=true→SameK (KK q77 2) (KK q77 2)∧G 2 (stOf 63 [4,5,7,32,33,34,42,43,44] [D.ptr 0 0 0,D.v (Value.int .i64 s),D.v (Value.int .i64 (1:Int)),D.own 1 0 S.length none,D.v (Value.int .i64 (↑S.length:Int)),D.v (Value.int .i64 s),D.sl false false yy0 yy1.snd.snd,D.v (Value.int .i64 (↑(List.length yy1.snd.snd):Int)),D.v (Value.int .i64 (0:Int))] [Slot.live (Row.box 111 [D.own 2 0 A.length none,D.own 3 0 E.length none]),Slot.live (Row.data 50 (yy0.prod (Ty.bool.prod yy0.sl)) S),Slot.live (Row.data 61 (yy0.prod yy0) A),Slot.live (Row.data 61 (yy0.prod yy0) E)]))∧(yy1.snd.fst=false→SameK (KK q77 2) (KK q77 2)∧G 2 (stOf 63 [4,5,7,32,33,34,42,43,44] [D.ptr 0 0 0,D.v (Value.int .i64 s),D.v (Value.int .i64 (0:Int)),D.own 1 0 S.length none,D.v (Value.int .i64 (↑S.length:Int)),D.v (Value.int .i64 s),D.sl false false yy0 yy1.snd.snd,D.v (Value.int .i64 (↑(List.length yy1.snd.snd):Int)),D.v (Value.int .i64 (0:Int))] [Slot.live (Row.box 111 [D.own 2 0 A.length none,D.own 3 0 E.length none]),Slot.live (Row.data 50 (yy0.prod (Ty.bool.prod yy0.sl)) S),Slot.live (Row.data 61 (yy0.prod yy0) A),Slot.live (Row.data 61 (yy0.prod yy0) E)])))∧(decide (s< (↑S.length:Int))=false→(0:Int)≤(0:Int)∧(0:Int)< (↑2:Int)∧(0:Int)≤(1:Int)∧(1:Int)< (↑2:Int)∧R (D.tup [D.own 0 0 A.length none,D.own 1 0 E.length none],[],[Row.data 61 (yy0.prod yy0) A,Row.data 61 (yy0.prod yy0) E]))
theorem e77_1 (S:List (Int×Bool×List Int)) (N:Nat) (r:D×List (Option Row)×List Row) (hS:S.length≤600) (hc:∀x∈S,x.2.2.length≤257∧∀c∈x.2.2,0≤c∧c< (N:Int)) (m:Nat):∀(s:Int) (A E:List (Int×Int)),0≤s→s+m=S.length→A.length=N→E.length=N→
  r=(.tup [.own 0 0 (laySlots s (S.drop s.toNat) A E).1.length none,.own 1 0 (laySlots s (S.drop s.toNat) A E).2.length none],[],[.data 61 SeT (laySlots s (S.drop s.toNat) A E).1,.data 61 SeT (laySlots s (S.drop s.toNat) A E).2])→GetsK Tryd.prog Tryd.f40.results.toList [none,none] (KK q77) 0 r 1 (stOf 63 [4,32,33,34] [.ptr 0 0 0,.own 1 0 S.length none,.v (.int .i64 S.length),.v (.int .i64 s)] [.live (.box 111 [.own 2 0 A.length none,.own 3 0 E.length none]),.live (.data 50 SlT S),.live (.data 61 SeT A),.live (.data 61 SeT E)]):=by
 induction m with
 |zero=>
  intro s A E s0 sm la le hr
  rw[List.drop_eq_nil_of_le (by omega)] at hr
  simp only[laySlots] at hr
  subst hr
  refine gets_vc spSe (fun k=> [[1,4,15,16],[4,32,33,34],[4,5,7,32,33,34,42,43,44]].getD k []) (fun k=>if k=99 then [⟨2,61,SeT⟩,⟨3,61,SeT⟩] else []) 400 (.fork (.fork (.hd 2) (.hd 2)) .stop) (V:=vq15 S s A E) hmG (fun G R=>by kernel_rfl) ?_
  unfold vq15
  try dsimp only
  simp (disch:=omega) only[oo,oop,ne_eq,Ty.dflt,reduceCtorEq]
  repeat' (first|with_reducible refine And.intro ?_ ?_|intro _)
  all_goals first|rfl|omega|assumption|trivial|exact room104 (by omega)|(exfalso;simp_all;done)|skip
 |succ m ih=>
  intro s A E s0 sm la le hr
  have hd:=drop_at (xs:=S) (i:=s) (Ty.dflt (.prod (.int .i64) (.prod .bool (.sl (.int .i64))))) s0 (by omega)
  have hm:S.getD s.toNat (Ty.dflt (.prod (.int .i64) (.prod .bool (.sl (.int .i64)))))∈S:=List.mem_of_mem_drop (i:=s.toNat) (by rw[hd];exact List.mem_cons_self)
  have hx:=hc _ hm
  rw[hd] at hr
  refine gets_vc spSe (fun k=> [[1,4,15,16],[4,32,33,34],[4,5,7,32,33,34,42,43,44]].getD k []) (fun k=>if k=99 then [⟨2,61,SeT⟩,⟨3,61,SeT⟩] else []) 400 (.fork (.fork (.hd 2) (.hd 2)) .stop) (V:=vq15 S s A E) hmG (fun G R=>by kernel_rfl) ?_
  unfold vq15
  try dsimp only
  simp only[Nat.zero_add]
  generalize S.getD s.toNat (Ty.dflt (.prod (.int .i64) (.prod .bool (.sl (.int .i64)))))=z at*
  obtain⟨num,down,cells⟩:=z
  simp only at hx
  simp only[laySlots] at hr
  cases down
  ·simp only[Bool.false_eq_true,if_false] at hr
   have hy:=ih (s+1) (layCells s 0 cells A) E (by omega) (by omega) (by rw[lay_len];exact la) le hr
   have hz:=e77_20 S s cells r ⟨s0,by omega⟩ (by omega) cells.length 0 A E (by omega) (by omega) (by rw[la];exact hx.2) (by simpa using hy)
   simp (disch:=omega) only[oo,oop,ne_eq,Ty.dflt,reduceCtorEq]
   repeat' (first|with_reducible refine And.intro ?_ ?_|intro _)
   all_goals first|rfl|omega|assumption|trivial|exact room104 (by omega)|(exfalso;simp_all;done)|skip
  ·simp only[if_true] at hr
   have hy:=ih (s+1) A (layCells s 0 cells E) (by omega) (by omega) la (by rw[lay_len];exact le) hr
   have hz:=e77_21 S s cells r ⟨s0,by omega⟩ (by omega) cells.length 0 A E (by omega) (by omega) (by rw[le];exact hx.2) (by simpa using hy)
   simp (disch:=omega) only[oo,oop,ne_eq,Ty.dflt,reduceCtorEq]
   repeat' (first|with_reducible refine And.intro ?_ ?_|intro _)
   all_goals first|rfl|omega|assumption|trivial|exact room104 (by omega)|(exfalso;simp_all;done)|skip
theorem e77_n (g:Gr) (n:Nat) (r:D×List (Option Row)×List Row) (hn:0<n∧n≤256) (fin:GetsK Tryd.prog Tryd.f40.results.toList [none,none] (KK q77) 0 r 0 (stOf 63 [1,4,15,16] [.ptr 0 0 0,.ptr 1 0 0,.v (.int .i64 n),.v (.int .i64 1)] [.live (.box 46 [.v (.int .i64 g.h),.v (.int .i64 g.w),.sl false false .bool g.B,.sl false false .bool g.R,.sl false false .bool g.L]),.live (.box 111 [.own 2 0 (List.replicate (1:Int).toNat ((-1:Int),(0:Int))).length none,.own 3 0 (List.replicate (1:Int).toNat ((-1:Int),(0:Int))).length none]),.live (.data 61 SeT (List.replicate (1:Int).toNat ((-1:Int),(0:Int)))),.live (.data 61 SeT (List.replicate (1:Int).toNat ((-1:Int),(0:Int))))])):GetsK Tryd.prog Tryd.f40.results.toList [none,none] (KK q77) 0 r 0 (stOf 63 [1,4,15,16] [.ptr 0 0 0,.ptr 1 0 0,.v (.int .i64 n),.v (.int .i64 0)] [.live (.box 46 [.v (.int .i64 g.h),.v (.int .i64 g.w),.sl false false .bool g.B,.sl false false .bool g.R,.sl false false .bool g.L]),.live (.box 111 [.v (.slice none 0 0),.v (.slice none 0 0)])]):=by
 refine gets_vc spSe (fun k=> [[1,4,15,16],[4,32,33,34],[4,5,7,32,33,34,42,43,44]].getD k []) (fun k=>if k=99 then [⟨2,61,SeT⟩,⟨3,61,SeT⟩] else []) 400 (.fork (.hd 0) (.hd 1)) (V:=fun G R=>let yy0:=(Ty.int .i64);let yy1:=(Row.data 61 (yy0.prod yy0) (List.take 1 (List.drop 0 [((-1:Int),(0:Int))])));(decide ((0:Int)< (↑n:Int))=true→(0:Int)≤(0:Int)∧(0:Int)< (↑2:Int)∧roomy Tryd.prog 61 1∧(0:Int)≤(0:Int)∧(0:Int)< (↑2:Int)∧(0:Int)≤(1:Int)∧(1:Int)< (↑2:Int)∧roomy Tryd.prog 61 1∧(0:Int)≤(1:Int)∧(1:Int)< (↑2:Int)∧SameK (KK q77 0) (KK q77 0)∧G 0 (stOf 63 [1,4,15,16] [D.ptr 0 0 0,D.ptr 1 0 0,D.v (Value.int .i64 (↑n:Int)),D.v (Value.int .i64 (IntKind.i64.wrap ((0:Int)+(1:Int))))] [Slot.live (Row.box 46 [D.v (Value.int .i64 g.h),D.v (Value.int .i64 g.w),D.sl false false Ty.bool g.B,D.sl false false Ty.bool g.R,D.sl false false Ty.bool g.L]),Slot.live (Row.box 111 [D.own 2 0 1 none,D.own 3 0 1 none]),Slot.live yy1,Slot.live yy1]))∧(decide ((0:Int)< (↑n:Int))=false→Con Tryd.prog 36 [] [D.agg [D.v (Value.int .i64 g.h),D.v (Value.int .i64 g.w),D.sl false false Ty.bool g.B,D.sl false false Ty.bool g.R,D.sl false false Ty.bool g.L]] (D.own 0 0 (slotsF g).length none) [] [Row.data 50 (yy0.prod (Ty.bool.prod yy0.sl)) (slotsF g)]∧Value.int .i64 g.h=Value.int .i64 g.h∧Value.int .i64 g.w=Value.int .i64 g.w∧g.B=g.B∧g.R=g.R∧g.L=g.L∧SameK (KK q77 1) (KK q77 1)∧G 1 (stOf 63 [4,32,33,34] [D.ptr 0 0 0,D.own 1 0 (slotsF g).length none,D.v (Value.int .i64 (↑(slotsF g).length:Int)),D.v (Value.int .i64 (0:Int))] [Slot.live (Row.box 111 [D.v (Value.slice none 0 0),D.v (Value.slice none 0 0)]),Slot.live (Row.data 50 (yy0.prod (Ty.bool.prod yy0.sl)) (slotsF g))]))) hmG (fun G R=>by kernel_rfl) ?_
 try dsimp only
 have fin:GetsK Tryd.prog Tryd.f40.results.toList [none,none] (KK q77) 0 r 0 (stOf 63 [1,4,15,16] [.ptr 0 0 0,.ptr 1 0 0,.v (.int .i64 n),.v (.int .i64 1)] [.live (.box 46 [.v (.int .i64 g.h),.v (.int .i64 g.w),.sl false false .bool g.B,.sl false false .bool g.R,.sl false false .bool g.L]),.live (.box 111 [.own 2 0 [((-1:Int),(0:Int))].length none,.own 3 0 [((-1:Int),(0:Int))].length none]),.live (.data 61 SeT [((-1:Int),(0:Int))]),.live (.data 61 SeT [((-1:Int),(0:Int))])]):=fin
 simp (disch:=omega) only[oo,oop,ne_eq,Ty.dflt,reduceCtorEq]
 repeat' (first|with_reducible refine And.intro ?_ ?_|intro _)
 all_goals first|rfl|omega|assumption|trivial|exact room104 (by omega)|(exfalso;simp_all;done)|skip
theorem e77_0 (g:Gr) (n:Nat) (r:D×List (Option Row)×List Row) (hn:n≤256) (fin:Con Tryd.prog 36 [] [g.d] (.own 0 0 (slotsF g).length none) [] [.data 50 SlT (slotsF g)]∧GetsK Tryd.prog Tryd.f40.results.toList [none,none] (KK q77) 0 r 1 (stOf 63 [4,32,33,34] [.ptr 0 0 0,.own 1 0 (slotsF g).length none,.v (.int .i64 (slotsF g).length),.v (.int .i64 0)] [.live (.box 111 [.own 2 0 (List.replicate n ((-1:Int),(0:Int))).length none,.own 3 0 (List.replicate n ((-1:Int),(0:Int))).length none]),.live (.data 50 SlT (slotsF g)),.live (.data 61 SeT (List.replicate n ((-1:Int),(0:Int)))),.live (.data 61 SeT (List.replicate n ((-1:Int),(0:Int))))])) (m:Nat):∀(i:Int),0<i→i+m=n→GetsK Tryd.prog Tryd.f40.results.toList [none,none] (KK q77) 0 r 0 (stOf 63 [1,4,15,16] [.ptr 0 0 0,.ptr 1 0 0,.v (.int .i64 n),.v (.int .i64 i)] [.live (.box 46 [.v (.int .i64 g.h),.v (.int .i64 g.w),.sl false false .bool g.B,.sl false false .bool g.R,.sl false false .bool g.L]),.live (.box 111 [.own 2 0 (List.replicate i.toNat ((-1:Int),(0:Int))).length none,.own 3 0 (List.replicate i.toNat ((-1:Int),(0:Int))).length none]),.live (.data 61 SeT (List.replicate i.toNat ((-1:Int),(0:Int)))),.live (.data 61 SeT (List.replicate i.toNat ((-1:Int),(0:Int))))]):=by
 induction m with
 |zero=>
  intro i i0 im
  have e:i.toNat=n:=by omega
  generalize hA:List.replicate i.toNat ((-1:Int),(0:Int))=A
  refine gets_vc spSe (fun k=> [[1,4,15,16],[4,32,33,34],[4,5,7,32,33,34,42,43,44]].getD k []) (fun k=>if k=99 then [⟨2,61,SeT⟩,⟨3,61,SeT⟩] else []) 400 (.fork (.hd 0) (.hd 1)) (V:=fun G R=>let yy0:=(Ty.int .i64);let yy1:=(Row.data 61 (yy0.prod yy0) (List.take A.length (List.drop 0 A)++List.take 1 (List.drop 0 [((-1:Int),(0:Int))])));(decide (i< (↑n:Int))=true→(0:Int)≤(0:Int)∧(0:Int)< (↑2:Int)∧roomy Tryd.prog 61 (A.length+1)∧(0:Int)≤(0:Int)∧(0:Int)< (↑2:Int)∧(0:Int)≤(1:Int)∧(1:Int)< (↑2:Int)∧roomy Tryd.prog 61 (A.length+1)∧(0:Int)≤(1:Int)∧(1:Int)< (↑2:Int)∧SameK (KK q77 0) (KK q77 0)∧G 0 (stOf 63 [1,4,15,16] [D.ptr 0 0 0,D.ptr 1 0 0,D.v (Value.int .i64 (↑n:Int)),D.v (Value.int .i64 (IntKind.i64.wrap (i+(1:Int))))] [Slot.live (Row.box 46 [D.v (Value.int .i64 g.h),D.v (Value.int .i64 g.w),D.sl false false Ty.bool g.B,D.sl false false Ty.bool g.R,D.sl false false Ty.bool g.L]),Slot.live (Row.box 111 [D.own 2 0 (A.length+1) none,D.own 3 0 (A.length+1) none]),Slot.live yy1,Slot.live yy1]))∧(decide (i< (↑n:Int))=false→Con Tryd.prog 36 [] [D.agg [D.v (Value.int .i64 g.h),D.v (Value.int .i64 g.w),D.sl false false Ty.bool g.B,D.sl false false Ty.bool g.R,D.sl false false Ty.bool g.L]] (D.own 0 0 (slotsF g).length none) [] [Row.data 50 (yy0.prod (Ty.bool.prod yy0.sl)) (slotsF g)]∧Value.int .i64 g.h=Value.int .i64 g.h∧Value.int .i64 g.w=Value.int .i64 g.w∧g.B=g.B∧g.R=g.R∧g.L=g.L∧SameK (KK q77 1) (KK q77 1)∧G 1 (stOf 63 [4,32,33,34] [D.ptr 0 0 0,D.own 1 0 (slotsF g).length none,D.v (Value.int .i64 (↑(slotsF g).length:Int)),D.v (Value.int .i64 (0:Int))] [Slot.live (Row.box 111 [D.own 2 0 A.length none,D.own 3 0 A.length none]),Slot.live (Row.data 50 (yy0.prod (Ty.bool.prod yy0.sl)) (slotsF g)),Slot.live (Row.data 61 (yy0.prod yy0) A),Slot.live (Row.data 61 (yy0.prod yy0) A)]))) hmG (fun G R=>by kernel_rfl) ?_
  try dsimp only
  subst hA
  rw[e]
  obtain⟨fin1,fin2⟩:=fin
  simp (disch:=omega) only[take_len,oo,oop,ne_eq,Ty.dflt,reduceCtorEq]
  repeat' (first|with_reducible refine And.intro ?_ ?_|intro _)
  all_goals first|rfl|omega|assumption|trivial|exact room104 (by omega)|(exfalso;simp_all;done)|skip
 |succ m ih=>
  intro i i0 im
  generalize hA:List.replicate i.toNat ((-1:Int),(0:Int))=A
  refine gets_vc spSe (fun k=> [[1,4,15,16],[4,32,33,34],[4,5,7,32,33,34,42,43,44]].getD k []) (fun k=>if k=99 then [⟨2,61,SeT⟩,⟨3,61,SeT⟩] else []) 400 (.fork (.hd 0) (.hd 1)) (V:=fun G R=>let yy0:=(Ty.int .i64);let yy1:=(Row.data 61 (yy0.prod yy0) (List.take A.length (List.drop 0 A)++List.take 1 (List.drop 0 [((-1:Int),(0:Int))])));(decide (i< (↑n:Int))=true→(0:Int)≤(0:Int)∧(0:Int)< (↑2:Int)∧roomy Tryd.prog 61 (A.length+1)∧(0:Int)≤(0:Int)∧(0:Int)< (↑2:Int)∧(0:Int)≤(1:Int)∧(1:Int)< (↑2:Int)∧roomy Tryd.prog 61 (A.length+1)∧(0:Int)≤(1:Int)∧(1:Int)< (↑2:Int)∧SameK (KK q77 0) (KK q77 0)∧G 0 (stOf 63 [1,4,15,16] [D.ptr 0 0 0,D.ptr 1 0 0,D.v (Value.int .i64 (↑n:Int)),D.v (Value.int .i64 (IntKind.i64.wrap (i+(1:Int))))] [Slot.live (Row.box 46 [D.v (Value.int .i64 g.h),D.v (Value.int .i64 g.w),D.sl false false Ty.bool g.B,D.sl false false Ty.bool g.R,D.sl false false Ty.bool g.L]),Slot.live (Row.box 111 [D.own 2 0 (A.length+1) none,D.own 3 0 (A.length+1) none]),Slot.live yy1,Slot.live yy1]))∧(decide (i< (↑n:Int))=false→Con Tryd.prog 36 [] [D.agg [D.v (Value.int .i64 g.h),D.v (Value.int .i64 g.w),D.sl false false Ty.bool g.B,D.sl false false Ty.bool g.R,D.sl false false Ty.bool g.L]] (D.own 0 0 (slotsF g).length none) [] [Row.data 50 (yy0.prod (Ty.bool.prod yy0.sl)) (slotsF g)]∧Value.int .i64 g.h=Value.int .i64 g.h∧Value.int .i64 g.w=Value.int .i64 g.w∧g.B=g.B∧g.R=g.R∧g.L=g.L∧SameK (KK q77 1) (KK q77 1)∧G 1 (stOf 63 [4,32,33,34] [D.ptr 0 0 0,D.own 1 0 (slotsF g).length none,D.v (Value.int .i64 (↑(slotsF g).length:Int)),D.v (Value.int .i64 (0:Int))] [Slot.live (Row.box 111 [D.own 2 0 A.length none,D.own 3 0 A.length none]),Slot.live (Row.data 50 (yy0.prod (Ty.bool.prod yy0.sl)) (slotsF g)),Slot.live (Row.data 61 (yy0.prod yy0) A),Slot.live (Row.data 61 (yy0.prod yy0) A)]))) hmG (fun G R=>by kernel_rfl) ?_
  try dsimp only
  subst hA
  have hx:=ih (i+1) (by omega) (by omega)
  simp only[show(i+1).toNat=i.toNat+1 by omega,List.replicate_succ',List.length_append,List.length_cons,List.length_nil,Nat.zero_add] at hx
  have hl:(List.replicate i.toNat ((-1:Int),(0:Int))).length≤256:=by simp;omega
  simp (disch:=omega) only[take_len,oo,oop,ne_eq,Ty.dflt,reduceCtorEq]
  repeat' (first|with_reducible refine And.intro ?_ ?_|intro _)
  all_goals first|rfl|omega|assumption|trivial|exact room104 (by omega)|(exfalso;simp_all;done)|skip
theorem d77 (g:Gr):Con Tryd.prog 40 [] [g.d] ((.tup [.own 0 0 (seatsF g).1.length none,.own 1 0 (seatsF g).2.length none])) [] [.data 61 SeT (seatsF g).1,.data 61 SeT (seatsF g).2]:=by
 refine con_vc (how:=[none,none]) (c:=q77) (K:=(KK q77)) spSe (fun k=> [[1,4,15,16],[4,32,33,34],[4,5,7,32,33,34,42,43,44]].getD k []) (fun k=>if k=99 then [⟨2,61,SeT⟩,⟨3,61,SeT⟩] else []) 400 (.fork .stop (.hd 0)) (V:=fun G R=>Con Tryd.prog 44 [] [D.agg [D.v (Value.int .i64 g.h),D.v (Value.int .i64 g.w),D.sl false false Ty.bool g.B,D.sl false false Ty.bool g.R,D.sl false false Ty.bool g.L]] (D.v (Value.int .i64 (checkF g))) [] []∧Value.int .i64 g.h=Value.int .i64 g.h∧Value.int .i64 g.w=Value.int .i64 g.w∧g.B=g.B∧g.R=g.R∧g.L=g.L∧((checkF g !=(0:Int))=true→R (D.tup [D.own 0 0 0 none,D.own 1 0 0 none],[],[Row.data 61 ((Ty.int .i64).prod (Ty.int .i64)) [],Row.data 61 ((Ty.int .i64).prod (Ty.int .i64)) []]))∧((checkF g !=(0:Int))=false→SameK (KK q77 0) (KK q77 0)∧G 0 (stOf 63 [1,4,15,16] [D.ptr 0 0 0,D.ptr 1 0 0,D.v (Value.int .i64 (↑g.B.length:Int)),D.v (Value.int .i64 (0:Int))] [Slot.live (Row.box 46 [D.v (Value.int .i64 g.h),D.v (Value.int .i64 g.w),D.sl false false Ty.bool g.B,D.sl false false Ty.bool g.R,D.sl false false Ty.bool g.L]),Slot.live (Row.box 111 [D.v (Value.slice none 0 0),D.v (Value.slice none 0 0)])]))) hmG Tryd.func40 (by kernel_rfl) (by kernel_rfl) (fun G R=>by kernel_rfl) ?_
 try dsimp only
 have c:=d43 g
 by_cases hc:checkF g=0
 ·have hw:=hw_in (chk0.1 hc).1 (chk0.1 hc).2.1
  have sz:=size3 (chk0.1 hc).2.2.1
  have e:seatsF g=laySlots 0 (slotsF g) (List.replicate (g.h*g.w).toNat (-1,0)) (List.replicate (g.h*g.w).toNat (-1,0)):=if_pos hc
  have es:slotsF g=slotsFrom g (g.h*g.w).toNat 0 0:=if_pos hc
  have hS:(slotsF g).length≤600:=by
   have:=sl_len g (g.h*g.w).toNat 0 0
   rw[es];omega
  have hop:∀x∈slotsF g,x.2.2.length≤257∧∀c∈x.2.2,0≤c∧c< ((g.h*g.w).toNat:Int):=by
   intro x hx
   rw[es] at hx
   obtain⟨h1,h2⟩:=slots_open _ _ _ x hx
   refine⟨h1,fun c hc=> ?_⟩
   have:=open_in (h2 c hc)
   omega
  have f1:=e77_1 (slotsF g) (g.h*g.w).toNat _ hS hop (slotsF g).length 0 _ _ (by omega) (by omega) (List.length_replicate (n:=(g.h*g.w).toNat) (a:=((-1:Int),(0:Int)))) (List.length_replicate (n:=(g.h*g.w).toNat) (a:=((-1:Int),(0:Int)))) rfl
  simp only[show(0:Int).toNat=0 by rfl,List.drop_zero] at f1
  rw[←e] at f1
  have hn:g.B.length=(g.h*g.w).toNat:=by omega
  have f0:=e77_0 g (g.h*g.w).toNat _ (by omega) ⟨d65 g,f1⟩ ((g.h*g.w).toNat-1) 1 (by omega) (by omega)
  have f2:=e77_n g (g.h*g.w).toNat _ (by omega) f0
  rw[hc] at c
  rw[hc,hn]
  simp (disch:=omega) only[oo,oop,ne_eq,Ty.dflt,reduceCtorEq]
  repeat' (first|with_reducible refine And.intro ?_ ?_|intro _)
  all_goals first|rfl|assumption|trivial|omega|(exfalso;simp_all;done)|skip
 ·have e:seatsF g=([],[]):=if_neg hc
  rw[e]
  simp (disch:=omega) only[oo,oop,ne_eq,Ty.dflt,reduceCtorEq]
  repeat' (first|with_reducible refine And.intro ?_ ?_|intro _)
  all_goals first|rfl|assumption|trivial|omega|(exfalso;simp_all;done)|skip
end Go.Proofs.YtnakmganodkliaaDoorAm
set_option maxRecDepth 100000
namespace Go.Proofs.YtnakmganodkliaaDoorAm
open Go
theorem narM_len (p:Pr) (h:checkP p=0):(narM p).length=p.M.length:=by
 unfold narM m0F
 rw[if_pos h,gfp_len,seatSlots_len]
 simp
end Go.Proofs.YtnakmganodkliaaDoorAm
namespace Go.Proofs.YtnakmganodkliaaDoorAm
open Go
theorem once_slot {g:Gr} (hc:checkF g=0) {s:Slt} (hs:s∈slotsF g):OnceS s:=by
 intro j k x y hx hy e
 obtain⟨i,hi,he⟩:=List.getElem_of_mem hs
 have hin:=slots_in hc s hs
 have hx0:=hin x (List.mem_of_getElem? hx)
 have hy0:=hin y (List.mem_of_getElem? hy)
 have hxy:x=y:=by omega
 subst hxy
 have h1:Sits (slotsF g) s.2.1 x i j:=⟨s,by rw[List.getElem?_eq_getElem hi,he],rfl,(List.getElem?_eq_some_iff.1 hx).1,by rw[List.getD_eq_getElem?_getD,hx];rfl⟩
 have h2:Sits (slotsF g) s.2.1 x i k:=⟨s,by rw[List.getElem?_eq_getElem hi,he],rfl,(List.getElem?_eq_some_iff.1 hy).1,by rw[List.getD_eq_getElem?_getD,hy];rfl⟩
 exact(sits_unique hc h1 h2).2
theorem seat_lt {g:Gr} (d:Bool) {c:Int} {v:Int×Int} (h:IsSeat (slotsF g) d c v):v.1< (slotsF g).length:=by
 by_cases e:∃s k,Sits (slotsF g) d c s k
 ·obtain⟨s,k,e⟩:=e
  rw[h.1 s k e]
  obtain⟨x,hx,_⟩:=e
  have:=(List.getElem?_eq_some_iff.1 hx).1
  show((s:Nat):Int)<_
  omega
 ·rw[h.2 fun s k q=>e ⟨s,k,q⟩]
  show(-1:Int)<_
  omega
theorem board_of {g:Gr} {W:List (List Int)} {M:List Nat} (h:checkP ⟨g,W,M⟩=0) (hM:Smalls M):Board W (slotsF g) M.length (seatsF g).1 (seatsF g).2∧(seatsF g).1.length=M.length∧(seatsF g).2.length=M.length:=by
 obtain⟨h1,h2,h3,h4⟩:=checkP_zero h
 have F:=fine_of h hM
 simp only at h1 h2 h3 h4
 have hl:=(seats_are (g:=g) h1 (c:=0) (by omega)).2.2
 have hlt:∀c:Nat,((seatsF g).1.getD c (-1,0)).1< (slotsF g).length∧((seatsF g).2.getD c (-1,0)).1< (slotsF g).length:=fun c=>by
  have q:=seats_are (g:=g) h1 (c:=(c:Int)) (by omega)
  have q1:=seat_lt false q.1
  have q2:=seat_lt true q.2.1
  unfold sAt at q1 q2
  rw[Int.toNat_natCast] at q1 q2
  exact⟨q1,q2⟩
 refine⟨⟨fun w hw=>(h3 w hw).2.2,fun j hj=>(F.cells _ (getD_in hj)).2,fun j hj=>once_slot h1 (getD_in hj),fun j hj c hc=> ?_,fun c=>(hlt c).1,fun c=>(hlt c).2⟩,by omega,by omega⟩
 have hs:sAtN (slotsF g) j∈slotsF g:=getD_in hj
 have hin:=slots_in h1 _ hs c hc
 have q:=seats_are (g:=g) h1 (c:=c) hin.1
 obtain⟨k,hk,hkc⟩:=List.getElem_of_mem hc
 have hsit:Sits (slotsF g) (sAtN (slotsF g) j).2.1 c j k:=⟨sAtN (slotsF g) j,by
  unfold sAtN
  rw[List.getD_eq_getElem?_getD,List.getElem?_eq_getElem hj]
  rfl,rfl,hk,by rw[List.getD_eq_getElem?_getD,List.getElem?_eq_getElem hk,hkc];rfl⟩
 cases hd:(sAtN (slotsF g) j).2.1 with
 |false=>
  rw[hd] at hsit
  left
  have:=q.1.1 j k hsit
  unfold sAt at this
  rw[this]
 |true=>
  rw[hd] at hsit
  right
  have:=q.2.1.1 j k hsit
  unfold sAt at this
  rw[this]
theorem inv_start {W:List (List Int)} {S:List Slt} {m0:List Nat} {wt:List Bool} {td:List Int} (q:Queue wt td S.length) (hw:∀j,j<S.length→wt.getD j false=true):Inv W S m0 m0 (mayF W S) wt td:=by
 refine⟨rfl,gfp_leq W S m0,Leq.refl m0,may_len W S,fun j hj=> ?_,fun j hj h=>(by rw[hw j hj] at h;cases h),q⟩
 refine⟨fun w=>w.length==(sAtN S j).2.2.length,?_,fun w hw=> ?_,fun w hw=>by simpa using hw⟩
 ·simp[mayF,List.getD_eq_getElem?_getD,hj,sAtN]
 ·have:=((fit_iff _ _ _).1 hw).1
  simpa using this
theorem Inv.look {W:List (List Int)} {S:List Slt} {m0 m:List Nat} {ms:List (List Int)} {wt:List Bool} {s:Int} {td:List Int} {A D:List (Int×Int)} (B:Board W S m0.length A D) (F:Fine W S m0) (I:Inv W S m0 m ms wt (s::td)):0≤s∧s<S.length∧LookOk W m (slotAt S s).2.2 (ms.getD s.toNat []):=by
 have hs:=I.q.mem s List.mem_cons_self
 have hj:s.toNat<S.length:=by omega
 obtain⟨f,hf,hf1,hf2⟩:=I.ok s.toNat hj
 have hc:=F.cells _ (getD_in (d:=(0,false,[])) hj)
 have hfw:=F.words
 refine⟨hs.1,hs.2.1,⟨fun i hi=> ?_,by omega,?_,hc.1,fun c h=>by rw[I.len];exact hc.2 c h,leq_small I.hi F.small⟩⟩
 ·rw[hf] at hi
  obtain⟨h1,h2,h3,h4⟩:=idx_word hi
  exact⟨h1,h2,hf2 _ h4,B.letters _ h3⟩
 ·rw[hf]
  have:=idx_len f W 0
  omega
def nzB (m:List Nat) (c:Int):Bool:=m.getD c.toNat 0 !=0
def restO (S:List Slt) (m:List Nat) (ms:List (List Int)):Nat→Int→Bool
 |0,_=>true
 |z+1,s=>(decide (((ms.getD s.toNat []).length:Int)>0)&&(slotAt S s).2.2.all (nzB m))&&restO S m ms z (s+1)
theorem restO_iff (S:List Slt) (m:List Nat) (ms:List (List Int)):∀(z:Nat) (s:Int),0≤s→(restO S m ms z s=true↔∀j:Nat,s.toNat≤j→j<s.toNat+z→(((ms.getD j []).length:Int)>0∧∀c∈(sAtN S j).2.2,nzB m c=true))
 |0,s,_=>by simp[restO];intros;omega
 |z+1,s,h=>by
  simp only[restO,Bool.and_eq_true,restO_iff S m ms z (s+1) (by omega),decide_eq_true_eq,List.all_eq_true]
  rw[show(s+1).toNat=s.toNat+1 by omega]
  constructor
  ·rintro⟨h1,h2⟩ j hj1 hj2
   by_cases e:j=s.toNat
   ·subst e;exact h1
   ·exact h2 j (by omega) (by omega)
  ·intro h1
   exact⟨h1 s.toNat (by omega) (by omega),fun j hj1 hj2=>h1 j (by omega) (by omega)⟩
theorem restO_ok {S:List Slt} {m:List Nat} {ms:List (List Int)} (hl:ms.length=S.length):restO S m ms S.length 0=okF S m ms:=by
 apply Bool.eq_iff_iff.2
 rw[restO_iff S m ms _ _ (by omega)]
 unfold okF
 rw[Bool.and_eq_true,List.all_eq_true,List.all_eq_true]
 constructor
 ·intro h
  constructor
  ·intro w hw
   obtain⟨j,hj,e⟩:=List.getElem_of_mem hw
   have:=(h j (by simp) (by simp;omega)).1
   rw[List.getD_eq_getElem?_getD,List.getElem?_eq_getElem hj,e] at this
   simpa using this
  ·intro s hs
   obtain⟨j,hj,e⟩:=List.getElem_of_mem hs
   have:=(h j (by simp) (by simpa using hj)).2
   rw[show sAtN S j=s by rw[←e];simp[sAtN,List.getD_eq_getElem?_getD,hj]] at this
   rw[List.all_eq_true]
   exact this
 ·rintro⟨h1,h2⟩ j _ hj
  have hj:j<S.length:=by simpa using hj
  constructor
  ·have:=h1 (ms.getD j []) (getD_in (by omega))
   simpa using this
  ·have:=h2 (sAtN S j) (getD_in hj)
   rw[List.all_eq_true] at this
   exact this
theorem lost_len (th:List Nat):∀(cs:List Int) (k:Nat) (m:List Nat),(lostL th k cs m).length≤cs.length
 | [],_,_=>by simp[lostL]
 |c::cs,k,m=>by
  simp only[lostL]
  split
  ·have:=lost_len th cs (k+1) m;simp only[List.length_cons];omega
  ·have:=lost_len th cs (k+1) (m.set c.toNat (m.getD c.toNat 0&&&th.getD k 0));simp only[List.length_cons];omega
theorem slots_900 {g:Gr} (h1:checkF g=0):(slotsF g).length≤900:=by
 have hw:=hw_in (chk0.1 h1).1 (chk0.1 h1).2.1
 have hl:(slotsF g).length≤2*(g.h*g.w).toNat:=by
  unfold slotsF
  rw[if_pos h1]
  exact sl_len g _ 0 0
 omega
theorem cnt_rep:∀n:Nat,cntT (List.replicate n false)=0
 |0=>rfl
 |n+1=>by rw[List.replicate_succ,cntT,cnt_rep n];rfl
theorem queue_new (n:Nat):Queue (List.replicate n false) [] n:=by
 refine⟨by simp,List.nodup_nil,fun s hs=>by simp at hs,fun j hj=> ?_,by rw[cnt_rep];rfl⟩
 rw[List.getD_eq_getElem?_getD,List.getElem?_replicate] at hj
 split at hj<;>cases hj
end Go.Proofs.YtnakmganodkliaaDoorAm
set_option maxRecDepth 100000
namespace Go.Proofs.YtnakmganodkliaaDoorAm
open Go
def vq16 (W:List (List Int)) (S:List Slt) (n:Nat) (m:List Nat) (ms:List (List Int)) (C:List Int) (s:Int) (k:Int) (ok:Bool) (G:Nat→St→Prop) (R:D×List (Option Row)×List Row→Prop):Prop:=let yy0:=(Ty.int .i64);let yy1:=(Row.box 176 [D.sl false false yy0.sl W,D.sl false false (yy0.prod (Ty.bool.prod yy0.sl)) S,D.own 3 0 n (some n),D.own 4 0 ms.length none]);let yy2:=(Row.box 151 [D.v (Value.slice none 0 0),D.v (Value.slice none 0 0),D.v (Value.bool false)]);let yy3:=(Row.nest (NK.mk 27 yy0.sl 0 3 yy0) ms none);let yy4:=(Value.int .i64 (↑S.length:Int));let yy5:=(Row.data 22 (Ty.int .u64) (Mi m));(decide (k< (↑C.length:Int))=true→(0:Int)≤k∧k< (↑C.length:Int)∧(ok=true→(0:Int)≤C.getD k.toNat yy0.dflt∧C.getD k.toNat yy0.dflt< (↑n:Int)∧0+Int.toNat (C.getD k.toNat yy0.dflt)< (Mi m).length∧SameK (KK n59 4) (KK n59 4)∧G 4 (stOf 143 [2,5,15,99,100,101,121,122,123] [D.ptr 0 0 0,D.ptr 1 0 0,D.ptr 2 0 0,D.sl false false (yy0.prod (Ty.bool.prod yy0.sl)) S,D.v yy4,D.v (Value.int .i64 s),D.sl false false yy0 C,D.v (Value.int .i64 (↑C.length:Int)),D.v (Value.int .i64 (IntKind.i64.wrap (k+(1:Int))))] [Slot.live yy2,Slot.live yy1,Slot.live (Row.box 151 [D.own 3 0 n (some n),D.own 4 0 ms.length none,D.v (Value.bool ((Mi m).getD (0+Int.toNat (C.getD k.toNat yy0.dflt)) (Ty.int .u64).dflt !=(0:Int)))]),Slot.live yy5,Slot.live yy3]))∧(ok=false→SameK (KK n59 4) (KK n59 4)∧G 4 (stOf 143 [2,5,15,99,100,101,121,122,123] [D.ptr 0 0 0,D.ptr 1 0 0,D.ptr 2 0 0,D.sl false false (yy0.prod (Ty.bool.prod yy0.sl)) S,D.v yy4,D.v (Value.int .i64 s),D.sl false false yy0 C,D.v (Value.int .i64 (↑C.length:Int)),D.v (Value.int .i64 (IntKind.i64.wrap (k+(1:Int))))] [Slot.live yy2,Slot.live yy1,Slot.live (Row.box 151 [D.own 3 0 n (some n),D.own 4 0 ms.length none,D.v (Value.bool false)]),Slot.live yy5,Slot.live yy3])))∧(decide (k< (↑C.length:Int))=false→SameK (KK n59 3) (KK n59 3)∧G 3 (stOf 143 [2,5,15,99,100,101] [D.ptr 0 0 0,D.ptr 1 0 0,D.ptr 2 0 0,D.sl false false (yy0.prod (Ty.bool.prod yy0.sl)) S,D.v yy4,D.v (Value.int .i64 (IntKind.i64.wrap (s+(1:Int))))] [Slot.live yy2,Slot.live yy1,Slot.live (Row.box 151 [D.own 3 0 n (some n),D.own 4 0 ms.length none,D.v (Value.bool ok)]),Slot.live yy5,Slot.live yy3]))
theorem e59d (W:List (List Int)) (S:List Slt) (n:Nat) (m:List Nat) (ms:List (List Int)) (C:List Int) (s:Int) (hm:m.length=n) (s0:0≤s) (s1:s<1000) (hC:∀c∈C,0≤c∧c<n) (hc:C.length≤300) (rest:Bool) (rE:Bool) (hx:∀ok,rE=(ok&&rest)→GetsK Tryd.prog Tryd.f123.results.toList [none,none] (KK n59) 0 (.tup [.agg [.own 0 0 n none,.own 1 0 ms.length none,.v (.bool rE)],.v (.int .i64 0)],[],[.data 22 (.int .u64) (Mi m),.nest kW ms none]) 3 (stOf 143 [2,5,15,99,100,101] [.ptr 0 0 0,.ptr 1 0 0,.ptr 2 0 0,slS S,.v (.int .i64 S.length),.v (.int .i64 (s+1))] [.live (.box 151 [.v (.slice none 0 0),.v (.slice none 0 0),.v (.bool false)]),.live (.box 176 [slW W,slS S,.own 3 0 n (some n),.own 4 0 ms.length none]),.live (.box 151 [.own 3 0 n (some n),.own 4 0 ms.length none,.v (.bool ok)]),.live (.data 22 (.int .u64) (Mi m)),.live (.nest kW ms none)])) (z:Nat):∀(k:Int) (ok:Bool),0≤k→k+z=C.length→rE=((ok&&(C.drop k.toNat).all (nzB m))&&rest)→GetsK Tryd.prog Tryd.f123.results.toList [none,none] (KK n59) 0 (.tup [.agg [.own 0 0 n none,.own 1 0 ms.length none,.v (.bool rE)],.v (.int .i64 0)],[],[.data 22 (.int .u64) (Mi m),.nest kW ms none]) 4 (stOf 143 [2,5,15,99,100,101,121,122,123] [.ptr 0 0 0,.ptr 1 0 0,.ptr 2 0 0,slS S,.v (.int .i64 S.length),.v (.int .i64 s),slI C,.v (.int .i64 C.length),.v (.int .i64 k)] [.live (.box 151 [.v (.slice none 0 0),.v (.slice none 0 0),.v (.bool false)]),.live (.box 176 [slW W,slS S,.own 3 0 n (some n),.own 4 0 ms.length none]),.live (.box 151 [.own 3 0 n (some n),.own 4 0 ms.length none,.v (.bool ok)]),.live (.data 22 (.int .u64) (Mi m)),.live (.nest kW ms none)]):=by
 have hs1:IntKind.i64.wrap (s+1)=s+1:=wrG (by omega) (by omega)
 induction z with
 |zero=>
  intro k ok k0 hk hr
  rw[List.drop_eq_nil_of_le (by omega)] at hr
  have h1:=hx ok (by rw[hr];simp)
  refine gets_vc (flag [2000115] spNa) (fun k=> [[2,5,6,7,8,9,10,45,46],[2,5,6,7,8,9,10],[2,5,6,7,8,9,10,66,67,68],[2,5,15,99,100,101],[2,5,15,99,100,101,121,122,123]].getD k []) (fun k=>if k<3 then [⟨1000000008,3,.int .i64⟩] else if k=99 then [⟨1000000002,22,.int .u64⟩,⟨4010002,27,WT⟩] else []) 400 (.fork (.fork (.hd 4) (.hd 4)) (.hd 3)) (V:=vq16 W S n m ms C s k ok) hmG (fun G R=>by kernel_rfl) ?_
  unfold vq16
  try dsimp only
  simp only[hs1]
  simp (disch:=omega) only[oo,oop,ne_eq,Ty.dflt,reduceCtorEq]
  repeat' (first|with_reducible refine And.intro ?_ ?_|intro _)
  all_goals first|rfl|omega|assumption|trivial|(exfalso;simp_all;done)|(exfalso;omega)|skip
 |succ z ih=>
  intro k ok k0 hk hr
  have hk1:IntKind.i64.wrap (k+1)=k+1:=wrG (by omega) (by omega)
  rw[drop_at (xs:=C) (i:=k) (0:Int) k0 (by omega)] at hr
  simp only[List.all_cons] at hr
  have hcc:=hC _ (getD_in (d:=0) (k:=k.toNat) (l:=C) (by omega))
  have ih2:=fun ok'=>ih (k+1) ok' (by omega) (by omega)
  refine gets_vc (flag [2000115] spNa) (fun k=> [[2,5,6,7,8,9,10,45,46],[2,5,6,7,8,9,10],[2,5,6,7,8,9,10,66,67,68],[2,5,15,99,100,101],[2,5,15,99,100,101,121,122,123]].getD k []) (fun k=>if k<3 then [⟨1000000008,3,.int .i64⟩] else if k=99 then [⟨1000000002,22,.int .u64⟩,⟨4010002,27,WT⟩] else []) 400 (.fork (.fork (.hd 4) (.hd 4)) (.hd 3)) (V:=vq16 W S n m ms C s k ok) hmG (fun G R=>by kernel_rfl) ?_
  unfold vq16
  try dsimp only
  simp only[Ty.dflt,hk1,take_len,List.drop_zero,List.take_length,Mi_getD,Mi_len,Nt_Mi,Int.toNat_natCast,Mi_set,Nat.zero_add,Nat.sub_zero,set_same,cast_bne0,List.length_set]
  cases ok with
  |false=>
   have h1:=ih2 false (by rw[hr];rfl)
   simp (disch:=omega) only[oo,oop,ne_eq,Ty.dflt,reduceCtorEq]
   repeat' (first|with_reducible refine And.intro ?_ ?_|intro _)
   all_goals first|rfl|omega|assumption|trivial|(exfalso;simp_all;done)|(exfalso;omega)|skip
  |true=>
   have h1:=ih2 (m.getD (C.getD k.toNat 0).toNat 0 !=0) (by rw[hr,Bool.true_and];rfl)
   simp (disch:=omega) only[oo,oop,ne_eq,Ty.dflt,reduceCtorEq]
   repeat' (first|with_reducible refine And.intro ?_ ?_|intro _)
   all_goals first|rfl|omega|assumption|trivial|(exfalso;simp_all;done)|(exfalso;omega)|skip
def vq17 (W:List (List Int)) (S:List Slt) (n:Nat) (m:List Nat) (ms:List (List Int)) (s:Int) (ok:Bool) (G:Nat→St→Prop) (R:D×List (Option Row)×List Row→Prop):Prop:=let yy0:=(Ty.int .i64);let yy1:=(yy0.prod (Ty.bool.prod yy0.sl));let yy2:=(Row.box 176 [D.sl false false yy0.sl W,D.sl false false yy1 S,D.own 3 0 n (some n),D.own 4 0 ms.length none]);let yy3:=(NK.mk 27 yy0.sl 0 3 yy0);let yy4:=(Row.box 151 [D.v (Value.slice none 0 0),D.v (Value.slice none 0 0),D.v (Value.bool false)]);let yy5:=(Value.int .i64 (↑(List.length (S.getD s.toNat yy1.dflt).snd.snd):Int));(decide (s< (↑S.length:Int))=true→(0:Int)≤s∧s< (↑S.length:Int)∧(ok=true→(0:Int)≤s∧s< (↑ms.length:Int)∧0+s.toNat<ms.length∧SameK (KK n59 4) (KK n59 4)∧G 4 (stOf 143 [2,5,15,99,100,101,121,122,123] [D.ptr 0 0 0,D.ptr 1 0 0,D.ptr 2 0 0,D.sl false false yy1 S,D.v (Value.int .i64 (↑S.length:Int)),D.v (Value.int .i64 s),D.sl false false yy0 (S.getD s.toNat yy1.dflt).snd.snd,D.v yy5,D.v (Value.int .i64 (0:Int))] [Slot.live yy4,Slot.live yy2,Slot.live (Row.box 151 [D.own 3 0 n (some n),D.own 4 0 ms.length none,D.v (Value.bool (decide ((↑(List.length (ms.getD (0+s.toNat) yy3.t.dflt)):Int)>(0:Int))))]),Slot.live (Row.data 22 (Ty.int .u64) (Mi m)),Slot.live (Row.nest yy3 (ms.set (0+s.toNat) (List.take (List.length (ms.getD (0+s.toNat) yy3.t.dflt)) (ms.getD (0+s.toNat) yy3.t.dflt))) none)]))∧(ok=false→SameK (KK n59 4) (KK n59 4)∧G 4 (stOf 143 [2,5,15,99,100,101,121,122,123] [D.ptr 0 0 0,D.ptr 1 0 0,D.ptr 2 0 0,D.sl false false yy1 S,D.v (Value.int .i64 (↑S.length:Int)),D.v (Value.int .i64 s),D.sl false false yy0 (S.getD s.toNat yy1.dflt).snd.snd,D.v yy5,D.v (Value.int .i64 (0:Int))] [Slot.live yy4,Slot.live yy2,Slot.live (Row.box 151 [D.own 3 0 n (some n),D.own 4 0 ms.length none,D.v (Value.bool false)]),Slot.live (Row.data 22 (Ty.int .u64) (Mi m)),Slot.live (Row.nest yy3 ms none)])))∧(decide (s< (↑S.length:Int))=false→R (D.tup [D.agg [D.own 0 0 n none,D.own 1 0 ms.length none,D.v (Value.bool ok)],D.v (Value.int .i64 (0:Int))],[],[Row.data 22 (Ty.int .u64) (List.take n (List.drop 0 (Mi m))),Row.nest yy3 ms none]))
theorem e59c (W:List (List Int)) (S:List Slt) (n:Nat) (m:List Nat) (ms:List (List Int)) (hm:m.length=n) (hms:ms.length=S.length) (hS:S.length≤900) (hcell:∀j,j<S.length→(sAtN S j).2.2.length≤300∧∀c∈(sAtN S j).2.2,0≤c∧c<n) (rE:Bool) (z:Nat):∀(s:Int) (ok:Bool),0≤s→s+z=S.length→rE=(ok&&restO S m ms z s)→GetsK Tryd.prog Tryd.f123.results.toList [none,none] (KK n59) 0 (.tup [.agg [.own 0 0 n none,.own 1 0 ms.length none,.v (.bool rE)],.v (.int .i64 0)],[],[.data 22 (.int .u64) (Mi m),.nest kW ms none]) 3 (stOf 143 [2,5,15,99,100,101] [.ptr 0 0 0,.ptr 1 0 0,.ptr 2 0 0,slS S,.v (.int .i64 S.length),.v (.int .i64 s)] [.live (.box 151 [.v (.slice none 0 0),.v (.slice none 0 0),.v (.bool false)]),.live (.box 176 [slW W,slS S,.own 3 0 n (some n),.own 4 0 ms.length none]),.live (.box 151 [.own 3 0 n (some n),.own 4 0 ms.length none,.v (.bool ok)]),.live (.data 22 (.int .u64) (Mi m)),.live (.nest kW ms none)]):=by
 have ht:(Mi m).take n=Mi m:=by rw[←hm];exact Mi_take m
 induction z with
 |zero=>
  intro s ok s0 hs hr
  have hr:rE=ok:=by rw[hr];simp[restO]
  rw[hr]
  refine gets_vc (flag [2000115] spNa) (fun k=> [[2,5,6,7,8,9,10,45,46],[2,5,6,7,8,9,10],[2,5,6,7,8,9,10,66,67,68],[2,5,15,99,100,101],[2,5,15,99,100,101,121,122,123]].getD k []) (fun k=>if k<3 then [⟨1000000008,3,.int .i64⟩] else if k=99 then [⟨1000000002,22,.int .u64⟩,⟨4010002,27,WT⟩] else []) 400 (.fork (.fork (.hd 4) (.hd 4)) .stop) (V:=vq17 W S n m ms s ok) hmG (fun G R=>by kernel_rfl) ?_
  unfold vq17
  try dsimp only
  simp only[List.drop_zero,ht]
  simp (disch:=omega) only[oo,oop,ne_eq,Ty.dflt,reduceCtorEq]
  repeat' (first|with_reducible refine And.intro ?_ ?_|intro _)
  all_goals first|rfl|omega|assumption|trivial|(exfalso;simp_all;done)|(exfalso;omega)|skip
 |succ z ih=>
  intro s ok s0 hs hr
  obtain⟨C,hC⟩:∃C,(S.getD s.toNat (0,false,[])).2.2=C:=⟨_,rfl⟩
  have hc1:=hcell s.toNat (by omega)
  unfold sAtN at hc1
  rw[hC] at hc1
  simp only[restO,slotAt,hC] at hr
  have ih2:=fun ok'=>ih (s+1) ok' (by omega) (by omega)
  have hd:=fun ok' hr'=>e59d W S n m ms C s hm s0 (by omega) hc1.2 hc1.1 (restO S m ms z (s+1)) rE ih2 C.length 0 ok' (by omega) (by omega) hr'
  simp only[show(0:Int).toNat=0 by rfl,List.drop_zero] at hd
  refine gets_vc (flag [2000115] spNa) (fun k=> [[2,5,6,7,8,9,10,45,46],[2,5,6,7,8,9,10],[2,5,6,7,8,9,10,66,67,68],[2,5,15,99,100,101],[2,5,15,99,100,101,121,122,123]].getD k []) (fun k=>if k<3 then [⟨1000000008,3,.int .i64⟩] else if k=99 then [⟨1000000002,22,.int .u64⟩,⟨4010002,27,WT⟩] else []) 400 (.fork (.fork (.hd 4) (.hd 4)) .stop) (V:=vq17 W S n m ms s ok) hmG (fun G R=>by kernel_rfl) ?_
  unfold vq17
  try dsimp only
  simp only[Ty.dflt,hC,take_len,List.drop_zero,List.take_length,Mi_getD,Mi_len,Nt_Mi,Int.toNat_natCast,Mi_set,Nat.zero_add,Nat.sub_zero,set_same,cast_bne0,List.length_set]
  cases ok with
  |false=>
   have h1:=hd false (by rw[hr];simp)
   simp (disch:=omega) only[oo,oop,ne_eq,Ty.dflt,reduceCtorEq]
   repeat' (first|with_reducible refine And.intro ?_ ?_|intro _)
   all_goals first|rfl|omega|assumption|trivial|(exfalso;simp_all;done)|(exfalso;omega)|skip
  |true=>
   have h1:=hd (decide (((ms.getD s.toNat []).length:Int)>0)) (by rw[hr,Bool.true_and])
   simp (disch:=omega) only[oo,oop,ne_eq,Ty.dflt,reduceCtorEq]
   repeat' (first|with_reducible refine And.intro ?_ ?_|intro _)
   all_goals first|rfl|omega|assumption|trivial|(exfalso;simp_all;done)|(exfalso;omega)|skip
def vq18 (W:List (List Int)) (S:List Slt) (A:List (Int×Int)) (Z:List (Int×Int)) (n:Nat) (N:Nat) (m:List Nat) (ms:List (List Int)) (lo:List Int) (k:Int) (wt:List Bool) (td:List Int) (G:Nat→St→Prop) (R:D×List (Option Row)×List Row→Prop):Prop:=let yy0:=(putF wt td (A.getD (0+Int.toNat (lo.getD (0+k.toNat) (Ty.int .i64).dflt)) ((Ty.int .i64).prod (Ty.int .i64)).dflt).fst);let yy1:=(Ty.int .i64);let yy2:=(Z.getD (0+Int.toNat (lo.getD (0+k.toNat) yy1.dflt)) (yy1.prod yy1).dflt);let yy3:=(putF yy0.fst yy0.snd yy2.fst);let yy4:=(A.getD (0+Int.toNat (lo.getD (0+k.toNat) yy1.dflt)) (yy1.prod yy1).dflt);let yy5:=(Row.box 44 [D.own 10 0 N (some N)]);let yy6:=(Row.box 151 [D.v (Value.slice none 0 0),D.v (Value.slice none 0 0),D.v (Value.bool false)]);(decide (k< (↑lo.length:Int))=true→(0:Int)≤k∧k< (↑lo.length:Int)∧0+k.toNat<lo.length∧(0:Int)≤lo.getD (0+k.toNat) yy1.dflt∧lo.getD (0+k.toNat) yy1.dflt< (↑A.length:Int)∧0+Int.toNat (lo.getD (0+k.toNat) yy1.dflt)<A.length∧Con Tryd.prog 144 [Row.box 44 [D.own 1 0 N (some N)],Row.data 4 Ty.bool wt,Row.box 27 [D.own 3 0 td.length none],Row.data 3 yy1 td] [D.v (Value.int .i64 yy4.fst),D.ptr 0 0 0,D.ptr 2 0 0] (D.tup []) [some (Row.box 44 [D.own 1 0 N (some N)]),some (Row.data 4 Ty.bool yy0.fst),some (Row.box 27 [D.own 4 0 yy0.snd.length none]),none] [Row.data 3 yy1 yy0.snd]∧Value.int .i64 yy4.fst=Value.int .i64 yy4.fst∧5=5∧0=0∧0=0∧4=4∧0=0∧0=0∧yy0.fst.length=wt.length∧some yy5=some yy5∧some (Row.data 4 Ty.bool wt)=some (Row.data 4 Ty.bool wt)∧some (Row.box 27 [D.own 9 0 td.length none])=some (Row.box 27 [D.own 9 0 td.length none])∧some (Row.data 3 yy1 td)=some (Row.data 3 yy1 td)∧(0:Int)≤lo.getD (0+k.toNat) yy1.dflt∧lo.getD (0+k.toNat) yy1.dflt< (↑Z.length:Int)∧0+Int.toNat (lo.getD (0+k.toNat) yy1.dflt)<Z.length∧Con Tryd.prog 144 [Row.box 44 [D.own 1 0 N (some N)],Row.data 4 Ty.bool yy0.fst,Row.box 27 [D.own 3 0 yy0.snd.length none],Row.data 3 yy1 yy0.snd] [D.v (Value.int .i64 yy2.fst),D.ptr 0 0 0,D.ptr 2 0 0] (D.tup []) [some (Row.box 44 [D.own 1 0 N (some N)]),some (Row.data 4 Ty.bool yy3.fst),some (Row.box 27 [D.own 4 0 yy3.snd.length none]),none] [Row.data 3 yy1 yy3.snd]∧Value.int .i64 yy2.fst=Value.int .i64 yy2.fst∧5=5∧0=0∧0=0∧4=4∧0=0∧0=0∧yy3.fst.length=yy0.fst.length∧some yy5=some yy5∧some (Row.data 4 Ty.bool yy0.fst)=some (Row.data 4 Ty.bool yy0.fst)∧some (Row.box 27 [D.own 11 0 yy0.snd.length none])=some (Row.box 27 [D.own 11 0 yy0.snd.length none])∧some (Row.data 3 yy1 yy0.snd)=some (Row.data 3 yy1 yy0.snd)∧SameK (KK n59 2) (KK n59 2)∧G 2 (stOf 143 [2,5,6,7,8,9,10,66,67,68] [D.ptr 0 0 0,D.ptr 1 0 0,D.own 2 0 A.length none,D.own 3 0 Z.length none,D.ptr 4 0 0,D.ptr 5 0 0,D.fn 144 [D.ptr 5 0 0,D.ptr 4 0 0],D.own 6 0 lo.length none,D.v (Value.int .i64 (↑lo.length:Int)),D.v (Value.int .i64 (IntKind.i64.wrap (k+(1:Int))))] [Slot.live yy6,Slot.live (Row.box 176 [D.sl false false yy1.sl W,D.sl false false (yy1.prod (Ty.bool.prod yy1.sl)) S,D.own 7 0 n (some n),D.own 8 0 ms.length none]),Slot.live (Row.data 61 (yy1.prod yy1) A),Slot.live (Row.data 61 (yy1.prod yy1) Z),Slot.live (Row.box 27 [D.own 9 0 yy3.snd.length none]),Slot.live yy5,Slot.live (Row.data 3 yy1 lo),Slot.live (Row.data 22 (Ty.int .u64) (Mi m)),Slot.live (Row.nest (NK.mk 27 yy1.sl 0 3 yy1) ms none),Slot.live (Row.data 3 yy1 (List.take yy3.snd.length (List.drop 0 yy3.snd))),Slot.live (Row.data 4 Ty.bool yy3.fst)]))∧(decide (k< (↑lo.length:Int))=false→SameK (KK n59 1) (KK n59 1)∧G 1 (stOf 143 [2,5,6,7,8,9,10] [D.ptr 0 0 0,D.ptr 1 0 0,D.own 2 0 A.length none,D.own 3 0 Z.length none,D.ptr 4 0 0,D.ptr 5 0 0,D.fn 144 [D.ptr 5 0 0,D.ptr 4 0 0]] [Slot.live yy6,Slot.live (Row.box 176 [D.sl false false yy1.sl W,D.sl false false (yy1.prod (Ty.bool.prod yy1.sl)) S,D.own 6 0 n (some n),D.own 7 0 ms.length none]),Slot.live (Row.data 61 (yy1.prod yy1) A),Slot.live (Row.data 61 (yy1.prod yy1) Z),Slot.live (Row.box 27 [D.own 8 0 td.length none]),Slot.live (Row.box 44 [D.own 9 0 N (some N)]),Slot.live (Row.data 22 (Ty.int .u64) (Mi m)),Slot.live (Row.nest (NK.mk 27 yy1.sl 0 3 yy1) ms none),Slot.live (Row.data 3 yy1 (List.take td.length (List.drop 0 td))),Slot.live (Row.data 4 Ty.bool wt)]))
theorem e59b (W:List (List Int)) (S:List Slt) (A Z:List (Int×Int)) (n N:Nat) (m:List Nat) (ms:List (List Int)) (lo:List Int) (hN:N≤900) (hlo:lo.length≤300) (hA:A.length=n) (hZ:Z.length=n) (hl:∀c∈lo,0≤c∧c<n) (iA:∀c:Nat,(A.getD c (-1,0)).1<N) (iZ:∀c:Nat,(Z.getD c (-1,0)).1<N) (tE:List Int) (wE:List Bool) (mE:List Nat) (sE:List (List Int)) (rE:Bool) (hx:GetsK Tryd.prog Tryd.f123.results.toList [none,none] (KK n59) 0 (.tup [.agg [.own 0 0 n none,.own 1 0 sE.length none,.v (.bool rE)],.v (.int .i64 0)],[],[.data 22 (.int .u64) (Mi mE),.nest kW sE none]) 1 (stOf 143 [2,5,6,7,8,9,10] [.ptr 0 0 0,.ptr 1 0 0,.own 2 0 A.length none,.own 3 0 Z.length none,.ptr 4 0 0,.ptr 5 0 0,.fn 144 [.ptr 5 0 0,.ptr 4 0 0]] [.live (.box 151 [.v (.slice none 0 0),.v (.slice none 0 0),.v (.bool false)]),.live (.box 176 [slW W,slS S,.own 6 0 n (some n),.own 7 0 ms.length none]),.live (.data 61 SeT A),.live (.data 61 SeT Z),.live (.box 27 [.own 8 0 tE.length none]),.live (.box 44 [.own 9 0 N (some N)]),.live (.data 22 (.int .u64) (Mi m)),.live (.nest kW ms none),.live (.data 3 (.int .i64) tE),.live (.data 4 .bool wE)])) (z:Nat):∀(k:Int) (wt:List Bool) (td:List Int),0≤k→k+z=lo.length→Queue wt td N→putsF A Z (lo.drop k.toNat) (wt,td)=(wE,tE)→GetsK Tryd.prog Tryd.f123.results.toList [none,none] (KK n59) 0 (.tup [.agg [.own 0 0 n none,.own 1 0 sE.length none,.v (.bool rE)],.v (.int .i64 0)],[],[.data 22 (.int .u64) (Mi mE),.nest kW sE none]) 2 (stOf 143 [2,5,6,7,8,9,10,66,67,68] [.ptr 0 0 0,.ptr 1 0 0,.own 2 0 A.length none,.own 3 0 Z.length none,.ptr 4 0 0,.ptr 5 0 0,.fn 144 [.ptr 5 0 0,.ptr 4 0 0],.own 6 0 lo.length none,.v (.int .i64 lo.length),.v (.int .i64 k)] [.live (.box 151 [.v (.slice none 0 0),.v (.slice none 0 0),.v (.bool false)]),.live (.box 176 [slW W,slS S,.own 7 0 n (some n),.own 8 0 ms.length none]),.live (.data 61 SeT A),.live (.data 61 SeT Z),.live (.box 27 [.own 9 0 td.length none]),.live (.box 44 [.own 10 0 N (some N)]),.live (.data 3 (.int .i64) lo),.live (.data 22 (.int .u64) (Mi m)),.live (.nest kW ms none),.live (.data 3 (.int .i64) td),.live (.data 4 .bool wt)]):=by
 induction z with
 |zero=>
  intro k wt td k0 hk q he
  rw[List.drop_eq_nil_of_le (by omega)] at he
  have he:(wt,td)=(wE,tE):=he
  rw[Prod.mk.injEq] at he
  obtain⟨rfl,rfl⟩:=he
  refine gets_vc (flag [2000115] spNa) (fun k=> [[2,5,6,7,8,9,10,45,46],[2,5,6,7,8,9,10],[2,5,6,7,8,9,10,66,67,68],[2,5,15,99,100,101],[2,5,15,99,100,101,121,122,123]].getD k []) (fun k=>if k<3 then [⟨1000000008,3,.int .i64⟩] else if k=99 then [⟨1000000002,22,.int .u64⟩,⟨4010002,27,WT⟩] else []) 400 (.fork (.hd 2) (.hd 1)) (V:=vq18 W S A Z n N m ms lo k wt td) hmG (fun G R=>by kernel_rfl) ?_
  unfold vq18
  try dsimp only
  simp only[List.drop_zero,List.take_length]
  simp (disch:=omega) only[oo,oop,ne_eq,Ty.dflt,reduceCtorEq]
  repeat' (first|with_reducible refine And.intro ?_ ?_|intro _)
  all_goals first|rfl|omega|assumption|trivial|(exfalso;simp_all;done)|(exfalso;omega)|skip
 |succ z ih=>
  intro k wt td k0 hk q he
  have hk1:IntKind.i64.wrap (k+1)=k+1:=wrG (by omega) (by omega)
  rw[drop_at (xs:=lo) (i:=k) (0:Int) k0 (by omega)] at he
  simp only[putsF] at he
  have hc:=hl _ (getD_in (d:=0) (k:=k.toNat) (l:=lo) (by omega))
  obtain⟨c,hcc⟩:∃c,lo.getD k.toNat 0=c:=⟨_,rfl⟩
  rw[hcc] at he hc
  have a0:(A.getD c.toNat (0,0))=A.getD c.toNat (-1,0):=by
   rw[List.getD_eq_getElem?_getD,List.getD_eq_getElem?_getD,List.getElem?_eq_getElem (by omega)]
   rfl
  have z0:(Z.getD c.toNat (0,0))=Z.getD c.toNat (-1,0):=by
   rw[List.getD_eq_getElem?_getD,List.getD_eq_getElem?_getD,List.getElem?_eq_getElem (by omega)]
   rfl
  obtain⟨q1,_,_⟩:=put_queue q (iA c.toNat)
  obtain⟨q2,_,_⟩:=put_queue q1 (iZ c.toNat)
  have l0:=q.long
  have l1:=q1.long
  have c1:=d98 (A.getD c.toNat (-1,0)).1 N td.length wt td q.len rfl (iA _) (by omega)
  have c2:=d98 (Z.getD c.toNat (-1,0)).1 N (putF wt td (A.getD c.toNat (-1,0)).1).2.length (putF wt td (A.getD c.toNat (-1,0)).1).1 (putF wt td (A.getD c.toNat (-1,0)).1).2 q1.len rfl (iZ _) (by omega)
  have h1:=ih (k+1) _ _ (by omega) (by omega) q2 he
  have n1:(putF wt td (A.getD c.toNat (-1,0)).1).1.length=wt.length:=by rw[q1.len,q.len]
  have n2:(putF (putF wt td (A.getD c.toNat (-1,0)).1).1 (putF wt td (A.getD c.toNat (-1,0)).1).2 (Z.getD c.toNat (-1,0)).1).1.length=(putF wt td (A.getD c.toNat (-1,0)).1).1.length:=by rw[q2.len,q1.len]
  refine gets_vc (flag [2000115] spNa) (fun k=> [[2,5,6,7,8,9,10,45,46],[2,5,6,7,8,9,10],[2,5,6,7,8,9,10,66,67,68],[2,5,15,99,100,101],[2,5,15,99,100,101,121,122,123]].getD k []) (fun k=>if k<3 then [⟨1000000008,3,.int .i64⟩] else if k=99 then [⟨1000000002,22,.int .u64⟩,⟨4010002,27,WT⟩] else []) 400 (.fork (.hd 2) (.hd 1)) (V:=vq18 W S A Z n N m ms lo k wt td) hmG (fun G R=>by kernel_rfl) ?_
  unfold vq18
  try dsimp only
  simp only[Ty.dflt,hk1,Nat.zero_add,hcc,a0,z0,List.drop_zero,List.take_length]
  simp (disch:=omega) only[oo,oop,ne_eq,Ty.dflt,reduceCtorEq]
  repeat' (first|with_reducible refine And.intro ?_ ?_|intro _)
  all_goals first|rfl|omega|assumption|trivial|(exfalso;simp_all;done)|(exfalso;omega)|skip
theorem e59a (W:List (List Int)) (S:List Slt) (A Z:List (Int×Int)) (n:Nat) (m0:List Nat) (hn:m0.length=n) (F:Fine W S m0) (hS:S.length≤900) (B:Board W S m0.length A Z) (hA:A.length=n) (hZ:Z.length=n) (N:Nat) (hN:N=S.length) (mE:List Nat) (sE:List (List Int)) (rE:Bool) (h1:mE=gfpF W S m0) (h2:sE=wordsF W S mE) (h3:rE=okF S mE sE) (q:Nat):∀(m:List Nat) (ms:List (List Int)) (wt:List Bool) (td:List Int),m.sum*(S.length+1)+td.length<q→Inv W S m0 m ms wt td→GetsK Tryd.prog Tryd.f123.results.toList [none,none] (KK n59) 0 (.tup [.agg [.own 0 0 n none,.own 1 0 sE.length none,.v (.bool rE)],.v (.int .i64 0)],[],[.data 22 (.int .u64) (Mi mE),.nest kW sE none]) 1 (stOf 143 [2,5,6,7,8,9,10] [.ptr 0 0 0,.ptr 1 0 0,.own 2 0 A.length none,.own 3 0 Z.length none,.ptr 4 0 0,.ptr 5 0 0,.fn 144 [.ptr 5 0 0,.ptr 4 0 0]] [.live (.box 151 [.v (.slice none 0 0),.v (.slice none 0 0),.v (.bool false)]),.live (.box 176 [slW W,slS S,.own 6 0 n (some n),.own 7 0 ms.length none]),.live (.data 61 SeT A),.live (.data 61 SeT Z),.live (.box 27 [.own 8 0 td.length none]),.live (.box 44 [.own 9 0 N (some N)]),.live (.data 22 (.int .u64) (Mi m)),.live (.nest kW ms none),.live (.data 3 (.int .i64) td),.live (.data 4 .bool wt)]):=by
 induction q with
 |zero=>intro m ms wt td h;omega
 |succ q ih=>
  intro m ms wt td hq I
  have hm:m.length=n:=by rw[I.len,hn]
  cases td with
  |nil=>
   obtain⟨e1,e2⟩:=I.done
   rw[←h1] at e1
   rw[e1,←h2] at e2
   subst e1;subst e2
   have hx:=e59c W S n m ms hm I.may hS (fun j hj=>by
    have:=F.cells _ (getD_in (d:=(0,false,[])) hj)
    rw[hn] at this
    exact this) rE S.length 0 true (by omega) (by omega) (by rw[restO_ok I.may,h3];rfl)
   refine gets_vc (flag [2000115] spNa) (fun k=> [[2,5,6,7,8,9,10,45,46],[2,5,6,7,8,9,10],[2,5,6,7,8,9,10,66,67,68],[2,5,15,99,100,101],[2,5,15,99,100,101,121,122,123]].getD k []) (fun k=>if k<3 then [⟨1000000008,3,.int .i64⟩] else if k=99 then [⟨1000000002,22,.int .u64⟩,⟨4010002,27,WT⟩] else []) 400 (.fork (.hd 2) (.hd 3)) (V:=fun G R=>let yy0:=(Ty.int .i64);let yy1:=(yy0.prod (Ty.bool.prod yy0.sl));let yy2:=(NK.mk 27 yy0.sl 0 3 yy0);let yy3:=(Row.box 176 [D.sl false false yy0.sl W,D.sl false false yy1 S,D.own 6 0 n (some n),D.own 7 0 ms.length none]);let yy4:=(Row.box 151 [D.v (Value.slice none 0 0),D.v (Value.slice none 0 0),D.v (Value.bool false)]);let yy5:=(Ty.int .u64);(decide ((↑0:Int)>(0:Int))=true→(0:Int)≤(0:Int)∧(0:Int)< (↑0:Int)∧0<0∧(0:Int)≤(1:Int)∧(1:Int)≤(↑0:Int)∧(↑0:Int)≤(↑0:Int)∧(0:Int)≤ [].getD 0 yy0.dflt∧[].getD 0 yy0.dflt< (↑N:Int)∧0<wt.length∧Con Tryd.prog 145 [Row.box 176 [D.sl false false yy0.sl W,D.sl false false yy1 S,D.own 1 0 n (some n),D.own 2 0 ms.length none],Row.data 22 yy5 (Mi (Nt (Mi m))),Row.nest yy2 ms none] [D.ptr 0 0 0,D.v (Value.int .i64 ([].getD 0 yy0.dflt))] (D.own 3 0 (lostC W (Nt (Mi m)) (slotAt S ([].getD 0 yy0.dflt)).snd.snd (ms.getD 0 [])).length none) [some (Row.box 176 [D.sl false false yy0.sl W,D.sl false false yy1 S,D.own 1 0 n (some n),D.own 2 0 ms.length none]),some (Row.data 22 yy5 (Mi (lookC W (Nt (Mi m)) (slotAt S ([].getD 0 yy0.dflt)).snd.snd (ms.getD 0 [])))),some (Row.nest yy2 (ms.set 0 (keepI W (Nt (Mi m)) (slotAt S ([].getD 0 yy0.dflt)).snd.snd (ms.getD 0 []))) none)] [Row.data 3 yy0 (lostC W (Nt (Mi m)) (slotAt S ([].getD 0 yy0.dflt)).snd.snd (ms.getD 0 []))]∧1=1∧0=0∧0=0∧Value.int .i64 ([].getD 0 yy0.dflt)=Value.int .i64 ([].getD 0 yy0.dflt)∧(Mi (lookC W (Nt (Mi m)) (slotAt S ([].getD 0 yy0.dflt)).snd.snd (ms.getD 0 []))).length=(Mi (Nt (Mi m))).length∧(ms.set 0 (keepI W (Nt (Mi m)) (slotAt S ([].getD 0 yy0.dflt)).snd.snd (ms.getD 0 []))).length=ms.length∧some yy3=some yy3∧some (Row.data 22 yy5 (Mi m))=some (Row.data 22 yy5 (Mi (Nt (Mi m))))∧some (Row.nest yy2 ms none)=some (Row.nest yy2 ms none)∧SameK (KK n59 2) (KK n59 2)∧G 2 (stOf 143 [2,5,6,7,8,9,10,66,67,68] [D.ptr 0 0 0,D.ptr 1 0 0,D.own 2 0 A.length none,D.own 3 0 Z.length none,D.ptr 4 0 0,D.ptr 5 0 0,D.fn 144 [D.ptr 5 0 0,D.ptr 4 0 0],D.own 6 0 (lostC W (Nt (Mi m)) (slotAt S ([].getD 0 yy0.dflt)).snd.snd (ms.getD 0 [])).length none,D.v (Value.int .i64 (↑(lostC W (Nt (Mi m)) (slotAt S ([].getD 0 yy0.dflt)).snd.snd (ms.getD 0 [])).length:Int)),D.v (Value.int .i64 (0:Int))] [Slot.live yy4,Slot.live (Row.box 176 [D.sl false false yy0.sl W,D.sl false false yy1 S,D.own 7 0 n (some n),D.own 8 0 ms.length none]),Slot.live (Row.data 61 (yy0.prod yy0) A),Slot.live (Row.data 61 (yy0.prod yy0) Z),Slot.live (Row.box 27 [D.own 9 0 0 none]),Slot.live (Row.box 44 [D.own 10 0 N (some N)]),Slot.live (Row.data 3 yy0 (lostC W (Nt (Mi m)) (slotAt S ([].getD 0 yy0.dflt)).snd.snd (ms.getD 0 []))),Slot.live (Row.data 22 yy5 (Mi (lookC W (Nt (Mi m)) (slotAt S ([].getD 0 yy0.dflt)).snd.snd (ms.getD 0 [])))),Slot.live (Row.nest yy2 (ms.set 0 (keepI W (Nt (Mi m)) (slotAt S ([].getD 0 yy0.dflt)).snd.snd (ms.getD 0 []))) none),Slot.live (Row.data 3 yy0 (List.take 0 (List.drop 1 []))),Slot.live (Row.data 4 Ty.bool (wt.set 0 false))]))∧(decide ((↑0:Int)>(0:Int))=false→SameK (KK n59 3) (KK n59 3)∧G 3 (stOf 143 [2,5,15,99,100,101] [D.ptr 0 0 0,D.ptr 1 0 0,D.ptr 2 0 0,D.sl false false yy1 S,D.v (Value.int .i64 (↑S.length:Int)),D.v (Value.int .i64 (0:Int))] [Slot.live yy4,Slot.live (Row.box 176 [D.sl false false yy0.sl W,D.sl false false yy1 S,D.own 3 0 n (some n),D.own 4 0 ms.length none]),Slot.live (Row.box 151 [D.own 3 0 n (some n),D.own 4 0 ms.length none,D.v (Value.bool true)]),Slot.live (Row.data 22 yy5 (Mi m)),Slot.live (Row.nest yy2 ms none)]))) hmG (fun G R=>by kernel_rfl) ?_
   try dsimp only
   simp (disch:=omega) only[oo,oop,ne_eq,Ty.dflt,reduceCtorEq]
   repeat' (first|with_reducible refine And.intro ?_ ?_|intro _)
   all_goals first|rfl|omega|assumption|trivial|(exfalso;simp_all;done)|(exfalso;omega)|skip
  |cons s td=>
   obtain⟨s0,s1,L⟩:=Inv.look B F I
   have c1:=d99 W S m ms s s0 s1 I.may L
   rw[hm] at c1
   have qs:=I.q
   have hwl:=qs.len
   obtain⟨C,hC⟩:∃C,(slotAt S s).2.2=C:=⟨_,rfl⟩
   obtain⟨l,hl⟩:∃l,ms.getD s.toNat []=l:=⟨_,rfl⟩
   obtain⟨I2,M2⟩:=Inv.step B I hC hl
   have hc:=F.cells (slotAt S s) (by unfold slotAt;exact getD_in (by omega))
   rw[hC] at hc
   rw[hC,hl] at c1
   have hlost:∀c∈lostC W m C l,0≤c∧c<n:=fun c h=>by
    rw[←hn]
    exact hc.2 c (lost_sub _ _ _ _ c h)
   have hll:(lostC W m C l).length≤300:=Nat.le_trans (lost_len _ _ _ _) hc.1
   have hlm:(lookC W m C l).length=m.length:=by rw[I2.len,I.len]
   have hx:=ih _ _ _ _ (by simp only[List.length_cons] at hq;omega) I2
   rw[List.length_set] at hx
   have hb:=e59b W S A Z n N (lookC W m C l) (ms.set s.toNat (keepI W m C l)) (lostC W m C l) (by omega) hll hA hZ hlost (by rw[hN];exact B.inA) (by rw[hN];exact B.inD) _ _ mE sE rE (by rw[List.length_set];exact hx) (lostC W m C l).length 0 (wt.set s.toNat false) td (by omega) (by omega) (by rw[hN];exact pop_queue qs) rfl
   rw[List.length_set] at hb
   refine gets_vc (flag [2000115] spNa) (fun k=> [[2,5,6,7,8,9,10,45,46],[2,5,6,7,8,9,10],[2,5,6,7,8,9,10,66,67,68],[2,5,15,99,100,101],[2,5,15,99,100,101,121,122,123]].getD k []) (fun k=>if k<3 then [⟨1000000008,3,.int .i64⟩] else if k=99 then [⟨1000000002,22,.int .u64⟩,⟨4010002,27,WT⟩] else []) 400 (.fork (.hd 2) (.hd 3)) (V:=fun G R=>let yy0:=(Ty.int .i64);let yy1:=((s::td).getD 0 yy0.dflt);let yy2:=(yy0.prod (Ty.bool.prod yy0.sl));let yy3:=(Int.toNat yy1);let yy4:=(↑(s::td).length:Int);let yy5:=(NK.mk 27 yy0.sl 0 3 yy0);let yy6:=(slotAt S yy1);let yy7:=(Row.box 176 [D.sl false false yy0.sl W,D.sl false false yy2 S,D.own 6 0 n (some n),D.own 7 0 ms.length none]);let yy8:=(Row.box 151 [D.v (Value.slice none 0 0),D.v (Value.slice none 0 0),D.v (Value.bool false)]);let yy9:=(Ty.int .u64);(decide (yy4>(0:Int))=true→(0:Int)≤(0:Int)∧(0:Int)<yy4∧0< (s::td).length∧(0:Int)≤(1:Int)∧(1:Int)≤yy4∧yy4≤(↑((s::td).length-0):Int)∧(0:Int)≤(s::td).getD 0 yy0.dflt∧(s::td).getD 0 yy0.dflt< (↑N:Int)∧0+Int.toNat yy1<wt.length∧Con Tryd.prog 145 [Row.box 176 [D.sl false false yy0.sl W,D.sl false false yy2 S,D.own 1 0 n (some n),D.own 2 0 ms.length none],Row.data 22 yy9 (Mi (Nt (Mi m))),Row.nest yy5 ms none] [D.ptr 0 0 0,D.v (Value.int .i64 yy1)] (D.own 3 0 (lostC W (Nt (Mi m)) yy6.snd.snd (ms.getD yy3 [])).length none) [some (Row.box 176 [D.sl false false yy0.sl W,D.sl false false yy2 S,D.own 1 0 n (some n),D.own 2 0 ms.length none]),some (Row.data 22 yy9 (Mi (lookC W (Nt (Mi m)) yy6.snd.snd (ms.getD yy3 [])))),some (Row.nest yy5 (ms.set yy3 (keepI W (Nt (Mi m)) yy6.snd.snd (ms.getD yy3 []))) none)] [Row.data 3 yy0 (lostC W (Nt (Mi m)) yy6.snd.snd (ms.getD yy3 []))]∧1=1∧0=0∧0=0∧Value.int .i64 yy1=Value.int .i64 yy1∧(Mi (lookC W (Nt (Mi m)) yy6.snd.snd (ms.getD yy3 []))).length=(Mi (Nt (Mi m))).length∧(ms.set yy3 (keepI W (Nt (Mi m)) yy6.snd.snd (ms.getD yy3 []))).length=ms.length∧some yy7=some yy7∧some (Row.data 22 yy9 (Mi m))=some (Row.data 22 yy9 (Mi (Nt (Mi m))))∧some (Row.nest yy5 ms none)=some (Row.nest yy5 ms none)∧SameK (KK n59 2) (KK n59 2)∧G 2 (stOf 143 [2,5,6,7,8,9,10,66,67,68] [D.ptr 0 0 0,D.ptr 1 0 0,D.own 2 0 A.length none,D.own 3 0 Z.length none,D.ptr 4 0 0,D.ptr 5 0 0,D.fn 144 [D.ptr 5 0 0,D.ptr 4 0 0],D.own 6 0 (lostC W (Nt (Mi m)) yy6.snd.snd (ms.getD yy3 [])).length none,D.v (Value.int .i64 (↑(lostC W (Nt (Mi m)) yy6.snd.snd (ms.getD yy3 [])).length:Int)),D.v (Value.int .i64 (0:Int))] [Slot.live yy8,Slot.live (Row.box 176 [D.sl false false yy0.sl W,D.sl false false yy2 S,D.own 7 0 n (some n),D.own 8 0 ms.length none]),Slot.live (Row.data 61 (yy0.prod yy0) A),Slot.live (Row.data 61 (yy0.prod yy0) Z),Slot.live (Row.box 27 [D.own 9 0 (yy4.toNat-1) none]),Slot.live (Row.box 44 [D.own 10 0 N (some N)]),Slot.live (Row.data 3 yy0 (lostC W (Nt (Mi m)) yy6.snd.snd (ms.getD yy3 []))),Slot.live (Row.data 22 yy9 (Mi (lookC W (Nt (Mi m)) yy6.snd.snd (ms.getD yy3 [])))),Slot.live (Row.nest yy5 (ms.set yy3 (keepI W (Nt (Mi m)) yy6.snd.snd (ms.getD yy3 []))) none),Slot.live (Row.data 3 yy0 (List.take (yy4.toNat-1) (List.drop 1 (s::td)))),Slot.live (Row.data 4 Ty.bool (wt.set (0+Int.toNat yy1) false))]))∧(decide (yy4>(0:Int))=false→SameK (KK n59 3) (KK n59 3)∧G 3 (stOf 143 [2,5,15,99,100,101] [D.ptr 0 0 0,D.ptr 1 0 0,D.ptr 2 0 0,D.sl false false yy2 S,D.v (Value.int .i64 (↑S.length:Int)),D.v (Value.int .i64 (0:Int))] [Slot.live yy8,Slot.live (Row.box 176 [D.sl false false yy0.sl W,D.sl false false yy2 S,D.own 3 0 n (some n),D.own 4 0 ms.length none]),Slot.live (Row.box 151 [D.own 3 0 n (some n),D.own 4 0 ms.length none,D.v (Value.bool true)]),Slot.live (Row.data 22 yy9 (Mi m)),Slot.live (Row.nest yy5 ms none)]))) hmG (fun G R=>by kernel_rfl) ?_
   try dsimp only
   simp only[Ty.dflt,Nat.zero_add,Nat.sub_zero,Nt_Mi,Mi_len,hlm,hC,hl,List.getD_cons_zero,List.length_cons,Int.toNat_natCast,Nat.add_sub_cancel,List.drop_succ_cons,List.drop_zero,List.take_length,List.length_set]
   simp (disch:=omega) only[oo,oop,ne_eq,Ty.dflt,reduceCtorEq]
   repeat' (first|with_reducible refine And.intro ?_ ?_|intro _)
   all_goals first|rfl|omega|assumption|trivial|(exfalso;simp_all;done)|(exfalso;omega)|skip
def vq19 (W:List (List Int)) (S:List Slt) (A:List (Int×Int)) (Z:List (Int×Int)) (n:Nat) (N:Nat) (m:List Nat) (ms:List (List Int)) (s:Int) (wt:List Bool) (td:List Int) (G:Nat→St→Prop) (R:D×List (Option Row)×List Row→Prop):Prop:=let yy0:=(Ty.int .i64);let yy1:=(Row.box 176 [D.sl false false yy0.sl W,D.sl false false (yy0.prod (Ty.bool.prod yy0.sl)) S,D.own 6 0 n (some n),D.own 7 0 ms.length none]);let yy2:=(Row.box 44 [D.own 9 0 N (some N)]);let yy3:=(Row.box 151 [D.v (Value.slice none 0 0),D.v (Value.slice none 0 0),D.v (Value.bool false)]);let yy4:=(putF wt td s);let yy5:=(Row.box 27 [D.own 8 0 td.length none]);(decide (s< (↑S.length:Int))=true→Con Tryd.prog 144 [Row.box 44 [D.own 1 0 N (some N)],Row.data 4 Ty.bool wt,Row.box 27 [D.own 3 0 td.length none],Row.data 3 yy0 td] [D.v (Value.int .i64 s),D.ptr 0 0 0,D.ptr 2 0 0] (D.tup []) [some (Row.box 44 [D.own 1 0 N (some N)]),some (Row.data 4 Ty.bool yy4.fst),some (Row.box 27 [D.own 4 0 yy4.snd.length none]),none] [Row.data 3 yy0 yy4.snd]∧Value.int .i64 s=Value.int .i64 s∧5=5∧0=0∧0=0∧4=4∧0=0∧0=0∧yy4.fst.length=wt.length∧some yy2=some yy2∧some (Row.data 4 Ty.bool wt)=some (Row.data 4 Ty.bool wt)∧some yy5=some yy5∧some (Row.data 3 yy0 td)=some (Row.data 3 yy0 td)∧SameK (KK n59 0) (KK n59 0)∧G 0 (stOf 143 [2,5,6,7,8,9,10,45,46] [D.ptr 0 0 0,D.ptr 1 0 0,D.own 2 0 A.length none,D.own 3 0 Z.length none,D.ptr 4 0 0,D.ptr 5 0 0,D.fn 144 [D.ptr 5 0 0,D.ptr 4 0 0],D.v (Value.int .i64 (↑S.length:Int)),D.v (Value.int .i64 (IntKind.i64.wrap (s+(1:Int))))] [Slot.live yy3,Slot.live yy1,Slot.live (Row.data 61 (yy0.prod yy0) A),Slot.live (Row.data 61 (yy0.prod yy0) Z),Slot.live (Row.box 27 [D.own 8 0 yy4.snd.length none]),Slot.live yy2,Slot.live (Row.data 22 (Ty.int .u64) (Mi m)),Slot.live (Row.nest (NK.mk 27 yy0.sl 0 3 yy0) ms none),Slot.live (Row.data 3 yy0 (List.take yy4.snd.length (List.drop 0 yy4.snd))),Slot.live (Row.data 4 Ty.bool yy4.fst)]))∧(decide (s< (↑S.length:Int))=false→SameK (KK n59 1) (KK n59 1)∧G 1 (stOf 143 [2,5,6,7,8,9,10] [D.ptr 0 0 0,D.ptr 1 0 0,D.own 2 0 A.length none,D.own 3 0 Z.length none,D.ptr 4 0 0,D.ptr 5 0 0,D.fn 144 [D.ptr 5 0 0,D.ptr 4 0 0]] [Slot.live yy3,Slot.live yy1,Slot.live (Row.data 61 (yy0.prod yy0) A),Slot.live (Row.data 61 (yy0.prod yy0) Z),Slot.live yy5,Slot.live yy2,Slot.live (Row.data 22 (Ty.int .u64) (Mi m)),Slot.live (Row.nest (NK.mk 27 yy0.sl 0 3 yy0) ms none),Slot.live (Row.data 3 yy0 (List.take td.length (List.drop 0 td))),Slot.live (Row.data 4 Ty.bool wt)]))
theorem e59p (W:List (List Int)) (S:List Slt) (A Z:List (Int×Int)) (n N:Nat) (m:List Nat) (ms:List (List Int)) (hS:S.length≤900) (hN:N=S.length) (mE:List Nat) (sE:List (List Int)) (rE:Bool) (hx:∀wt td,Queue wt td N→(∀j,j<N→wt.getD j false=true)→GetsK Tryd.prog Tryd.f123.results.toList [none,none] (KK n59) 0 (.tup [.agg [.own 0 0 n none,.own 1 0 sE.length none,.v (.bool rE)],.v (.int .i64 0)],[],[.data 22 (.int .u64) (Mi mE),.nest kW sE none]) 1 (stOf 143 [2,5,6,7,8,9,10] [.ptr 0 0 0,.ptr 1 0 0,.own 2 0 A.length none,.own 3 0 Z.length none,.ptr 4 0 0,.ptr 5 0 0,.fn 144 [.ptr 5 0 0,.ptr 4 0 0]] [.live (.box 151 [.v (.slice none 0 0),.v (.slice none 0 0),.v (.bool false)]),.live (.box 176 [slW W,slS S,.own 6 0 n (some n),.own 7 0 ms.length none]),.live (.data 61 SeT A),.live (.data 61 SeT Z),.live (.box 27 [.own 8 0 td.length none]),.live (.box 44 [.own 9 0 N (some N)]),.live (.data 22 (.int .u64) (Mi m)),.live (.nest kW ms none),.live (.data 3 (.int .i64) td),.live (.data 4 .bool wt)])) (z:Nat):∀(s:Int) (wt:List Bool) (td:List Int),0≤s→s+z=S.length→Queue wt td N→(∀j:Nat,j<s.toNat→wt.getD j false=true)→GetsK Tryd.prog Tryd.f123.results.toList [none,none] (KK n59) 0 (.tup [.agg [.own 0 0 n none,.own 1 0 sE.length none,.v (.bool rE)],.v (.int .i64 0)],[],[.data 22 (.int .u64) (Mi mE),.nest kW sE none]) 0 (stOf 143 [2,5,6,7,8,9,10,45,46] [.ptr 0 0 0,.ptr 1 0 0,.own 2 0 A.length none,.own 3 0 Z.length none,.ptr 4 0 0,.ptr 5 0 0,.fn 144 [.ptr 5 0 0,.ptr 4 0 0],.v (.int .i64 S.length),.v (.int .i64 s)] [.live (.box 151 [.v (.slice none 0 0),.v (.slice none 0 0),.v (.bool false)]),.live (.box 176 [slW W,slS S,.own 6 0 n (some n),.own 7 0 ms.length none]),.live (.data 61 SeT A),.live (.data 61 SeT Z),.live (.box 27 [.own 8 0 td.length none]),.live (.box 44 [.own 9 0 N (some N)]),.live (.data 22 (.int .u64) (Mi m)),.live (.nest kW ms none),.live (.data 3 (.int .i64) td),.live (.data 4 .bool wt)]):=by
 induction z with
 |zero=>
  intro s wt td s0 hs q hw
  have h1:=hx wt td q (fun j hj=>hw j (by omega))
  refine gets_vc (flag [2000115] spNa) (fun k=> [[2,5,6,7,8,9,10,45,46],[2,5,6,7,8,9,10],[2,5,6,7,8,9,10,66,67,68],[2,5,15,99,100,101],[2,5,15,99,100,101,121,122,123]].getD k []) (fun k=>if k<3 then [⟨1000000008,3,.int .i64⟩] else if k=99 then [⟨1000000002,22,.int .u64⟩,⟨4010002,27,WT⟩] else []) 400 (.fork (.hd 0) (.hd 1)) (V:=vq19 W S A Z n N m ms s wt td) hmG (fun G R=>by kernel_rfl) ?_
  unfold vq19
  try dsimp only
  simp only[List.drop_zero,List.take_length]
  simp (disch:=omega) only[oo,oop,ne_eq,Ty.dflt,reduceCtorEq]
  repeat' (first|with_reducible refine And.intro ?_ ?_|intro _)
  all_goals first|rfl|omega|assumption|trivial|(exfalso;simp_all;done)|(exfalso;omega)|skip
 |succ z ih=>
  intro s wt td s0 hs q hw
  have hs1:IntKind.i64.wrap (s+1)=s+1:=wrG (by omega) (by omega)
  obtain⟨q1,g1,p1⟩:=put_queue q (s:=s) (by omega)
  have l0:=q.long
  have c1:=d98 s N td.length wt td q.len rfl (by omega) (by omega)
  have n1:(putF wt td s).1.length=wt.length:=by rw[q1.len,q.len]
  have h1:=ih (s+1) _ _ (by omega) (by omega) q1 (fun j hj=>by
   by_cases e:j<s.toNat
   ·exact g1 j (hw j e)
   ·have:j=s.toNat:=by omega
    rw[this]
    exact p1 s0)
  refine gets_vc (flag [2000115] spNa) (fun k=> [[2,5,6,7,8,9,10,45,46],[2,5,6,7,8,9,10],[2,5,6,7,8,9,10,66,67,68],[2,5,15,99,100,101],[2,5,15,99,100,101,121,122,123]].getD k []) (fun k=>if k<3 then [⟨1000000008,3,.int .i64⟩] else if k=99 then [⟨1000000002,22,.int .u64⟩,⟨4010002,27,WT⟩] else []) 400 (.fork (.hd 0) (.hd 1)) (V:=vq19 W S A Z n N m ms s wt td) hmG (fun G R=>by kernel_rfl) ?_
  unfold vq19
  try dsimp only
  simp only[hs1,List.drop_zero,List.take_length]
  simp (disch:=omega) only[oo,oop,ne_eq,Ty.dflt,reduceCtorEq]
  repeat' (first|with_reducible refine And.intro ?_ ?_|intro _)
  all_goals first|rfl|omega|assumption|trivial|(exfalso;simp_all;done)|(exfalso;omega)|skip
theorem d59 (g:Gr) (W:List (List Int)) (M:List Nat) (hM:Smalls M):Con Tryd.prog 123 [] [.agg [.v (.int .i64 g.h),.v (.int .i64 g.w),.sl false false .bool g.B,.sl false false .bool g.R,.sl false false .bool g.L,slW W,slU M]] (narVal (narM ⟨g,W,M⟩) (narW ⟨g,W,M⟩) (narO ⟨g,W,M⟩) (checkP ⟨g,W,M⟩)) [] [.data 22 (.int .u64) (Mi (narM ⟨g,W,M⟩)),.nest kW (narW ⟨g,W,M⟩) none]:=by
 refine con_vc (how:=[none,none]) (c:=n59) (K:=(KK n59)) (flag [2000115] spNa) (fun k=> [[2,5,6,7,8,9,10,45,46],[2,5,6,7,8,9,10],[2,5,6,7,8,9,10,66,67,68],[2,5,15,99,100,101],[2,5,15,99,100,101,121,122,123]].getD k []) (fun k=>if k<3 then [⟨1000000008,3,.int .i64⟩] else if k=99 then [⟨1000000002,22,.int .u64⟩,⟨4010002,27,WT⟩] else []) 400 (.fork .stop (.hd 0)) (V:=fun G R=>let yy0:=(Pr.mk g W (Nt (Mi M)));let yy1:=(Ty.int .i64);let yy2:=(↑(slotsF yy0.g).length:Int);let yy3:=(mayF yy0.W (slotsF yy0.g));let yy4:=(Ty.int .u64);Con Tryd.prog 89 [] [D.agg [D.v (Value.int .i64 yy0.g.h),D.v (Value.int .i64 yy0.g.w),D.sl false false Ty.bool yy0.g.B,D.sl false false Ty.bool yy0.g.R,D.sl false false Ty.bool yy0.g.L,D.sl false false yy1.sl yy0.W,D.sl false false yy4 (Mi yy0.M)]] (D.v (Value.int .i64 (checkP yy0))) [] []∧Value.int .i64 g.h=Value.int .i64 yy0.g.h∧Value.int .i64 g.w=Value.int .i64 yy0.g.w∧g.B=yy0.g.B∧g.R=yy0.g.R∧g.L=yy0.g.L∧W=yy0.W∧Mi M=Mi yy0.M∧((checkP yy0 !=(0:Int))=true→R (D.tup [D.agg [D.own 0 0 0 none,D.own 1 0 0 none,D.v (Value.bool false)],D.v (Value.int .i64 (checkP yy0))],[],[Row.data 22 yy4 [],Row.nest (NK.mk 27 yy1.sl 0 3 yy1) [] none]))∧((checkP yy0 !=(0:Int))=false→Con Tryd.prog 143 [] [D.agg [D.v (Value.int .i64 yy0.g.h),D.v (Value.int .i64 yy0.g.w),D.sl false false Ty.bool yy0.g.B,D.sl false false Ty.bool yy0.g.R,D.sl false false Ty.bool yy0.g.L,D.sl false false yy1.sl yy0.W,D.sl false false yy4 (Mi yy0.M)]] (D.ptr 0 0 0) [] [Row.box 176 [D.sl false false yy1.sl yy0.W,D.sl false false (yy1.prod (Ty.bool.prod yy1.sl)) (slotsF yy0.g),D.own 1 0 yy0.M.length (some yy0.M.length),D.own 2 0 yy3.length none],Row.data 22 yy4 (Mi (m0F yy0)),Row.nest (NK.mk 27 yy1.sl 0 3 yy1) yy3 none]∧Value.int .i64 g.h=Value.int .i64 yy0.g.h∧Value.int .i64 g.w=Value.int .i64 yy0.g.w∧g.B=yy0.g.B∧g.R=yy0.g.R∧g.L=yy0.g.L∧W=yy0.W∧Mi M=Mi yy0.M∧Con Tryd.prog 40 [] [D.agg [D.v (Value.int .i64 g.h),D.v (Value.int .i64 g.w),D.sl false false Ty.bool g.B,D.sl false false Ty.bool g.R,D.sl false false Ty.bool g.L]] (D.tup [D.own 0 0 (seatsF g).fst.length none,D.own 1 0 (seatsF g).snd.length none]) [] [Row.data 61 (yy1.prod yy1) (seatsF g).fst,Row.data 61 (yy1.prod yy1) (seatsF g).snd]∧Value.int .i64 g.h=Value.int .i64 g.h∧Value.int .i64 g.w=Value.int .i64 g.w∧g.B=g.B∧g.R=g.R∧g.L=g.L∧(0:Int)≤yy2∧yy2≤yy2∧yy2≤(9223372036854775807:Int)∧yy2.toNat*1≤281474976710656∧SameK (KK n59 0) (KK n59 0)∧G 0 (stOf 143 [2,5,6,7,8,9,10,45,46] [D.ptr 0 0 0,D.ptr 1 0 0,D.own 2 0 (seatsF g).fst.length none,D.own 3 0 (seatsF g).snd.length none,D.ptr 4 0 0,D.ptr 5 0 0,D.fn 144 [D.ptr 5 0 0,D.ptr 4 0 0],D.v (Value.int .i64 yy2),D.v (Value.int .i64 (0:Int))] [Slot.live (Row.box 151 [D.v (Value.slice none 0 0),D.v (Value.slice none 0 0),D.v (Value.bool false)]),Slot.live (Row.box 176 [D.sl false false yy1.sl yy0.W,D.sl false false (yy1.prod (Ty.bool.prod yy1.sl)) (slotsF yy0.g),D.own 6 0 yy0.M.length (some yy0.M.length),D.own 7 0 yy3.length none]),Slot.live (Row.data 61 (yy1.prod yy1) (seatsF g).fst),Slot.live (Row.data 61 (yy1.prod yy1) (seatsF g).snd),Slot.live (Row.box 27 [D.own 8 0 0 none]),Slot.live (Row.box 44 [D.own 9 0 yy2.toNat (some yy2.toNat)]),Slot.live (Row.data 22 yy4 (Mi (m0F yy0))),Slot.live (Row.nest (NK.mk 27 yy1.sl 0 3 yy1) yy3 none),Slot.live (Row.data 3 yy1 []),Slot.live (Row.data 4 Ty.bool (List.replicate yy2.toNat false))]))) hmG Tryd.func123 (by kernel_rfl) (by kernel_rfl) (fun G R=>by kernel_rfl) ?_
 try dsimp only
 try dsimp only
 have c0:=d62 g W M
 unfold narVal
 simp only[Nt_Mi,Mi_len,Int.toNat_natCast]
 by_cases h:checkP ⟨g,W,M⟩=0
 ·have F:=fine_of h hM
  have hsz:=F.size
  obtain⟨B,hA,hZ⟩:=board_of h hM
  have c1:=d97 g W M F
  have c2:=d77 g
  have hl:=narM_len ⟨g,W,M⟩ h
  have e1:narM ⟨g,W,M⟩=gfpF W (slotsF g) (m0F ⟨g,W,M⟩):=if_pos h
  have e2:narW ⟨g,W,M⟩=wordsF W (slotsF g) (narM ⟨g,W,M⟩):=if_pos h
  have e3:narO ⟨g,W,M⟩=okF (slotsF g) (narM ⟨g,W,M⟩) (narW ⟨g,W,M⟩):=if_pos h
  have hml:(m0F ⟨g,W,M⟩).length=M.length:=by
   unfold m0F
   rw[seatSlots_len]
   simp
  have hms:Smalls (m0F ⟨g,W,M⟩):=seatSlots_small hM _ (rep_small _)
  have F0:Fine W (slotsF g) (m0F ⟨g,W,M⟩):=⟨F.words,F.long,F.slots,fun s hs=>by rw[hml];exact F.cells s hs,by omega,hms⟩
  have hS:(slotsF g).length≤900:=slots_900 (checkP_zero h).1
  have hq:Queue (List.replicate (slotsF g).length false) [] (slotsF g).length:=queue_new _
  have hx:=e59p W (slotsF g) (seatsF g).1 (seatsF g).2 M.length (slotsF g).length (m0F ⟨g,W,M⟩) (mayF W (slotsF g)) hS rfl (narM ⟨g,W,M⟩) (narW ⟨g,W,M⟩) (narO ⟨g,W,M⟩)
   (fun wt td q hw=>e59a W (slotsF g) (seatsF g).1 (seatsF g).2 M.length (m0F ⟨g,W,M⟩) hml F0 hS (by rw[hml];exact B) hA hZ (slotsF g).length rfl _ _ _ e1 e2 e3 _ _ _ wt td (Nat.lt_succ_self _) (inv_start q hw))
   (slotsF g).length 0 (List.replicate (slotsF g).length false) [] (by omega) (by omega) hq (fun j hj=>by simp at hj)
  rw[h] at c0⊢
  rw[hl]
  simp only[show((0:Int) !=0)=false from rfl]
  simp (disch:=omega) only[oo,oop,ne_eq,Ty.dflt,reduceCtorEq]
  repeat' (first|with_reducible refine And.intro ?_ ?_|intro _)
  all_goals first|rfl|omega|assumption|trivial|exact c1|exact c2|exact hx|skip
 ·have e1:narM ⟨g,W,M⟩=[]:=if_neg h
  have e2:narW ⟨g,W,M⟩=[]:=if_neg h
  have e3:narO ⟨g,W,M⟩=false:=if_neg h
  rw[e1,e2,e3]
  have hb:(checkP ⟨g,W,M⟩ !=0)=true:=by rw[bne_iff_ne];exact h
  simp only[hb]
  simp (disch:=omega) only[oo,oop,ne_eq,Ty.dflt,reduceCtorEq]
  repeat' (first|with_reducible refine And.intro ?_ ?_|intro _)
  all_goals first|rfl|omega|assumption|trivial|(exfalso;simp_all;done)|(exfalso;omega)|skip
end Go.Proofs.YtnakmganodkliaaDoorAm
set_option maxRecDepth 100000
namespace Go.Proofs.YtnakmganodkliaaDoorAm
open Go
def spNb:Sp:=fun f args rd=>match f,args with
 |53,[.agg [.v (.int _ h),.v (.int _ w),b,r,l,ws,ms]]=>withP rd h w b r l ws ms fun p ls=>some {f:=53,args:=[p.d],val:= .agg [.v (.int .i64 p.g.h),.v (.int .i64 p.g.w),.own 0 0 p.g.B.length none,.own 1 0 p.g.R.length none,.own 2 0 p.g.L.length none,.own 3 0 p.W.length none,.own 4 0 p.M.length none],allocs:=[.data 4 .bool p.g.B,.data 4 .bool p.g.R,.data 4 .bool p.g.L,.data 27 WT p.W,.data 22 (.int .u64) (Mi p.M)],lent:=ls}
 |57,[.agg [.v (.int _ h),.v (.int _ w),b,r,l,ws,ms],.agg [.v (.int _ h'),.v (.int _ w'),b',r',l',ws',ms']]=>withP rd h w b r l ws ms fun p ls=>withP rd h' w' b' r' l' ws' ms' fun q ls'=>some {f:=57,args:=[p.d,q.d],val:= .v (.bool (decide (p.g=q.g∧p.M=q.M∧p.W=q.W))),lent:=ls++ls'}
 |f,args=>spNa f args rd
structure Pr.fits (p:Pr):Prop where
 g:p.g.fits
 W:p.W.length≤5864062014805
 w:∀w∈p.W,w.length≤17592186044416
 M:p.M.length≤17592186044416
 small:Smalls p.M
theorem roomB {n:Nat} (h:n≤140737488355328):roomy Tryd.prog 4 n:=by
 unfold roomy
 rw[show Tryd.prog.bytesOf 4=1 by kernel_rfl]
 omega
theorem roomI {n:Nat} (h:n≤17592186044416):roomy Tryd.prog 3 n:=by
 unfold roomy
 rw[show Tryd.prog.bytesOf 3=8 by kernel_rfl]
 omega
theorem roomU {n:Nat} (h:n≤17592186044416):roomy Tryd.prog 22 n:=by
 unfold roomy
 rw[bytes80]
 omega
theorem roomW {n:Nat} (h:n≤5864062014805):roomy Tryd.prog 27 n:=by
 unfold roomy
 rw[bytes46]
 omega
end Go.Proofs.YtnakmganodkliaaDoorAm
set_option maxRecDepth 100000
namespace Go.Proofs.YtnakmganodkliaaDoorAm
open Go
theorem e58 (g:Gr) (W:List (List Int)) (M:List Nat) (hW:W.length≤5864062014805) (hw:∀w∈W,w.length≤17592186044416) (z:Nat):∀(i:Int) (V:List (List Int)),0≤i→i+z=W.length→V=W.take i.toNat→GetsK Tryd.prog Tryd.f53.results.toList [none] (KK n58) 0 (.agg [.v (.int .i64 g.h),.v (.int .i64 g.w),.own 0 0 g.B.length none,.own 1 0 g.R.length none,.own 2 0 g.L.length none,.own 3 0 W.length none,.own 4 0 M.length none],[],[.data 4 .bool g.B,.data 4 .bool g.R,.data 4 .bool g.L,.data 27 WT W,.data 22 (.int .u64) (Mi M)]) 0 (stOf 52 [1,2,3,4] [.ptr 0 0 0,.ptr 1 0 0,.ptr 2 0 0,.v (.int .i64 i)] [.live (.box 73 [.v (.int .i64 g.h),.v (.int .i64 g.w),.sl false false .bool g.B,.sl false false .bool g.R,.sl false false .bool g.L,slW W,slU M]),.live (.box 73 [.v (.int .i64 0),.v (.int .i64 0),.v (.slice none 0 0),.v (.slice none 0 0),.v (.slice none 0 0),.v (.slice none 0 0),.v (.slice none 0 0)]),.live (.box 73 [.v (.int .i64 g.h),.v (.int .i64 g.w),.own 3 0 g.B.length none,.own 4 0 g.R.length none,.own 5 0 g.L.length none,.own 6 0 V.length none,.own 7 0 M.length none]),.live (.data 4 .bool g.B),.live (.data 4 .bool g.R),.live (.data 4 .bool g.L),.live (.data 27 WT V),.live (.data 22 (.int .u64) (Mi M))]):=by
 induction z with
 |zero=>
  intro i V i0 hi hV
  rw[List.take_of_length_le (by omega)] at hV
  rw[hV]
  refine gets_vc spNb (fun _=> [1,2,3,4]) (fun k=>if k=0 then [⟨50003,27,WT⟩] else []) 400 (.fork (.hd 0) .stop) (V:=fun G R=>let yy0:=(Ty.int .i64);let yy1:=(Value.slice none 0 0);(decide (i< (↑W.length:Int))=true→(0:Int)≤i∧i< (↑W.length:Int)∧roomy Tryd.prog 3 (0+List.length (W.getD i.toNat yy0.sl.dflt))∧roomy Tryd.prog 27 (W.length+1)∧SameK (KK n58 0) (KK n58 0)∧G 0 (stOf 52 [1,2,3,4] [D.ptr 0 0 0,D.ptr 1 0 0,D.ptr 2 0 0,D.v (Value.int .i64 (IntKind.i64.wrap (i+(1:Int))))] [Slot.live (Row.box 73 [D.v (Value.int .i64 g.h),D.v (Value.int .i64 g.w),D.sl false false Ty.bool g.B,D.sl false false Ty.bool g.R,D.sl false false Ty.bool g.L,D.sl false false yy0.sl W,D.sl false false (Ty.int .u64) (Mi M)]),Slot.live (Row.box 73 [D.v (Value.int .i64 (0:Int)),D.v (Value.int .i64 (0:Int)),D.v yy1,D.v yy1,D.v yy1,D.v yy1,D.v yy1]),Slot.live (Row.box 73 [D.v (Value.int .i64 g.h),D.v (Value.int .i64 g.w),D.own 3 0 g.B.length none,D.own 4 0 g.R.length none,D.own 5 0 g.L.length none,D.own 6 0 (W.length+1) none,D.own 7 0 M.length none]),Slot.live (Row.data 4 Ty.bool g.B),Slot.live (Row.data 4 Ty.bool g.R),Slot.live (Row.data 4 Ty.bool g.L),Slot.live (Row.data 27 yy0.sl (List.take W.length (List.drop 0 W)++List.take 1 (List.drop 0 [List.take (0+List.length (W.getD i.toNat yy0.sl.dflt)) (List.drop 0 (List.take 0 (List.drop 0 [])++W.getD i.toNat yy0.sl.dflt))]))),Slot.live (Row.data 22 (Ty.int .u64) (Mi M))]))∧(decide (i< (↑W.length:Int))=false→R (D.agg [D.v (Value.int .i64 g.h),D.v (Value.int .i64 g.w),D.own 0 0 g.B.length none,D.own 1 0 g.R.length none,D.own 2 0 g.L.length none,D.own 3 0 W.length none,D.own 4 0 M.length none],[],[Row.data 4 Ty.bool g.B,Row.data 4 Ty.bool g.R,Row.data 4 Ty.bool g.L,Row.data 27 yy0.sl W,Row.data 22 (Ty.int .u64) (Mi M)]))) hmG (fun G R=>by kernel_rfl) ?_
  try dsimp only
  simp only[take_len,List.drop_zero,List.take_length,Mi_getD,Mi_len,Nt_Mi,Int.toNat_natCast,Mi_set,Nat.zero_add,Nat.sub_zero,List.length_set,take_one,takeSn,List.take_zero,List.nil_append,List.length_append,List.length_cons,List.length_nil]
  simp (disch:=omega) only[oo,oop,ne_eq,Ty.dflt,reduceCtorEq]
  repeat' (first|with_reducible refine And.intro ?_ ?_|intro _)
  all_goals first|rfl|omega|assumption|trivial|exact roomW (by omega)|exact roomI (by omega)|exact roomU (by omega)|exact roomB (by omega)|(exfalso;simp_all;done)|(exfalso;omega)|skip
 |succ z ih=>
  intro i V i0 hi hV
  have hk1:IntKind.i64.wrap (i+1)=i+1:=wrG (by omega) (by omega)
  have ht:=take_succ_at ([]:List Int) W i0 (by omega)
  obtain⟨w,hww⟩:∃w,W.getD i.toNat []=w:=⟨_,rfl⟩
  have hwl:w.length≤17592186044416:=by rw[←hww];exact hw _ (getD_in (by omega))
  rw[hww] at ht
  have hVl:V.length=i.toNat:=by rw[hV,List.length_take];omega
  have hx:=ih (i+1) (V++[w]) (by omega) (by omega) (by rw[ht,hV])
  rw[List.length_append,List.length_cons,List.length_nil] at hx
  refine gets_vc spNb (fun _=> [1,2,3,4]) (fun k=>if k=0 then [⟨50003,27,WT⟩] else []) 400 (.fork (.hd 0) .stop) (V:=fun G R=>let yy0:=(Ty.int .i64);let yy1:=(Value.slice none 0 0);(decide (i< (↑W.length:Int))=true→(0:Int)≤i∧i< (↑W.length:Int)∧roomy Tryd.prog 3 (0+List.length (W.getD i.toNat yy0.sl.dflt))∧roomy Tryd.prog 27 (V.length+1)∧SameK (KK n58 0) (KK n58 0)∧G 0 (stOf 52 [1,2,3,4] [D.ptr 0 0 0,D.ptr 1 0 0,D.ptr 2 0 0,D.v (Value.int .i64 (IntKind.i64.wrap (i+(1:Int))))] [Slot.live (Row.box 73 [D.v (Value.int .i64 g.h),D.v (Value.int .i64 g.w),D.sl false false Ty.bool g.B,D.sl false false Ty.bool g.R,D.sl false false Ty.bool g.L,D.sl false false yy0.sl W,D.sl false false (Ty.int .u64) (Mi M)]),Slot.live (Row.box 73 [D.v (Value.int .i64 (0:Int)),D.v (Value.int .i64 (0:Int)),D.v yy1,D.v yy1,D.v yy1,D.v yy1,D.v yy1]),Slot.live (Row.box 73 [D.v (Value.int .i64 g.h),D.v (Value.int .i64 g.w),D.own 3 0 g.B.length none,D.own 4 0 g.R.length none,D.own 5 0 g.L.length none,D.own 6 0 (V.length+1) none,D.own 7 0 M.length none]),Slot.live (Row.data 4 Ty.bool g.B),Slot.live (Row.data 4 Ty.bool g.R),Slot.live (Row.data 4 Ty.bool g.L),Slot.live (Row.data 27 yy0.sl (List.take V.length (List.drop 0 V)++List.take 1 (List.drop 0 [List.take (0+List.length (W.getD i.toNat yy0.sl.dflt)) (List.drop 0 (List.take 0 (List.drop 0 [])++W.getD i.toNat yy0.sl.dflt))]))),Slot.live (Row.data 22 (Ty.int .u64) (Mi M))]))∧(decide (i< (↑W.length:Int))=false→R (D.agg [D.v (Value.int .i64 g.h),D.v (Value.int .i64 g.w),D.own 0 0 g.B.length none,D.own 1 0 g.R.length none,D.own 2 0 g.L.length none,D.own 3 0 V.length none,D.own 4 0 M.length none],[],[Row.data 4 Ty.bool g.B,Row.data 4 Ty.bool g.R,Row.data 4 Ty.bool g.L,Row.data 27 yy0.sl V,Row.data 22 (Ty.int .u64) (Mi M)]))) hmG (fun G R=>by kernel_rfl) ?_
  try dsimp only
  simp only[Ty.dflt,hk1,hww,take_len,List.drop_zero,List.take_length,Mi_getD,Mi_len,Nt_Mi,Int.toNat_natCast,Mi_set,Nat.zero_add,Nat.sub_zero,List.length_set,take_one,takeSn,List.take_zero,List.nil_append,List.length_append,List.length_cons,List.length_nil]
  simp (disch:=omega) only[oo,oop,ne_eq,Ty.dflt,reduceCtorEq]
  repeat' (first|with_reducible refine And.intro ?_ ?_|intro _)
  all_goals first|rfl|omega|assumption|trivial|exact roomW (by omega)|exact roomI (by omega)|exact roomU (by omega)|exact roomB (by omega)|(exfalso;simp_all;done)|(exfalso;omega)|skip
theorem d58 (g:Gr) (W:List (List Int)) (M:List Nat) (hg:g.fits) (hW:W.length≤5864062014805) (hw:∀w∈W,w.length≤17592186044416) (hM:M.length≤17592186044416):Con Tryd.prog 53 [] [.agg [.v (.int .i64 g.h),.v (.int .i64 g.w),.sl false false .bool g.B,.sl false false .bool g.R,.sl false false .bool g.L,slW W,slU M]] (.agg [.v (.int .i64 g.h),.v (.int .i64 g.w),.own 0 0 g.B.length none,.own 1 0 g.R.length none,.own 2 0 g.L.length none,.own 3 0 W.length none,.own 4 0 M.length none]) [] [.data 4 .bool g.B,.data 4 .bool g.R,.data 4 .bool g.L,.data 27 WT W,.data 22 (.int .u64) (Mi M)]:=by
 refine con_vc (how:=[none]) (c:=n58) (K:=(KK n58)) spNb (fun _=> [1,2,3,4]) (fun k=>if k=0 then [⟨50003,27,WT⟩] else []) 400 (.hd 0) (V:=fun G R=>let yy0:=(Value.slice none 0 0);roomy Tryd.prog 4 (0+g.B.length)∧roomy Tryd.prog 4 (0+g.R.length)∧roomy Tryd.prog 4 (0+g.L.length)∧roomy Tryd.prog 22 (0+(Mi M).length)∧SameK (KK n58 0) (KK n58 0)∧G 0 (stOf 52 [1,2,3,4] [D.ptr 0 0 0,D.ptr 1 0 0,D.ptr 2 0 0,D.v (Value.int .i64 (0:Int))] [Slot.live (Row.box 73 [D.v (Value.int .i64 g.h),D.v (Value.int .i64 g.w),D.sl false false Ty.bool g.B,D.sl false false Ty.bool g.R,D.sl false false Ty.bool g.L,D.sl false false (Ty.int .i64).sl W,D.sl false false (Ty.int .u64) (Mi M)]),Slot.live (Row.box 73 [D.v (Value.int .i64 (0:Int)),D.v (Value.int .i64 (0:Int)),D.v yy0,D.v yy0,D.v yy0,D.v yy0,D.v yy0]),Slot.live (Row.box 73 [D.v (Value.int .i64 g.h),D.v (Value.int .i64 g.w),D.own 3 0 (0+g.B.length) none,D.own 4 0 (0+g.R.length) none,D.own 5 0 (0+g.L.length) none,D.own 6 0 0 none,D.own 7 0 (0+(Mi M).length) none]),Slot.live (Row.data 4 Ty.bool (List.take 0 (List.drop 0 [])++g.B)),Slot.live (Row.data 4 Ty.bool (List.take 0 (List.drop 0 [])++g.R)),Slot.live (Row.data 4 Ty.bool (List.take 0 (List.drop 0 [])++g.L)),Slot.live (Row.data 27 (Ty.int .i64).sl []),Slot.live (Row.data 22 (Ty.int .u64) (List.take 0 (List.drop 0 [])++Mi M))])) hmG Tryd.func53 (by kernel_rfl) (by kernel_rfl) (fun G R=>by kernel_rfl) ?_
 try dsimp only
 try dsimp only
 obtain⟨f1,f2,f3⟩:=hg
 have hx:=e58 g W M hW hw W.length 0 [] (by omega) (by omega) rfl
 simp only[take_len,List.drop_zero,List.take_length,Mi_getD,Mi_len,Nt_Mi,Int.toNat_natCast,Mi_set,Nat.zero_add,Nat.sub_zero,List.length_set,take_one,takeSn,List.take_zero,List.nil_append,List.length_append,List.length_cons,List.length_nil]
 simp (disch:=omega) only[oo,oop,ne_eq,Ty.dflt,reduceCtorEq]
 repeat' (first|with_reducible refine And.intro ?_ ?_|intro _)
 all_goals first|rfl|omega|assumption|trivial|exact roomW (by omega)|exact roomI (by omega)|exact roomU (by omega)|exact roomB (by omega)|(exfalso;simp_all;done)|(exfalso;omega)|skip
end Go.Proofs.YtnakmganodkliaaDoorAm
set_option maxRecDepth 100000
namespace Go.Proofs.YtnakmganodkliaaDoorAm
open Go
theorem seatC_get (M:List Nat):∀(cs:List Int) (m:List Nat) (j:Nat),j<m.length→(seatCells M cs m).getD j 0=if cs.any (fun c=>c.toNat==j) then M.getD j 0 else m.getD j 0
 | [],m,j,_=>by simp[seatCells]
 |c::cs,m,j,hj=>by
  simp only[seatCells,List.any_cons]
  rw[seatC_get M cs _ j (by simpa using hj)]
  by_cases h:c.toNat=j
  ·have hs:(m.set c.toNat (M.getD c.toNat 0)).getD j 0=M.getD j 0:=by rw[getD_set_nat,if_pos ⟨h,by omega⟩,h]
   simp only[hs,beq_iff_eq.2 h,Bool.true_or,if_true,ite_self]
  ·have hs:(m.set c.toNat (M.getD c.toNat 0)).getD j 0=m.getD j 0:=by rw[getD_set_nat,if_neg (fun e=>h e.1)]
   simp only[hs,beq_eq_false_iff_ne.2 h,Bool.false_or]
theorem seatS_get (M:List Nat):∀(ss:List Slt) (m:List Nat) (j:Nat),j<m.length→(seatSlots M ss m).getD j 0=if ss.any (fun s=>s.2.2.any (fun c=>c.toNat==j)) then M.getD j 0 else m.getD j 0
 | [],m,j,_=>by simp[seatSlots]
 |s::ss,m,j,hj=>by
  simp only[seatSlots,List.any_cons]
  rw[seatS_get M ss _ j (by rw[seatCells_len];exact hj),seatC_get M _ m j hj]
  rcases Bool.eq_false_or_eq_true (s.2.2.any (fun c=>c.toNat==j)) with h1|h1<;>rcases Bool.eq_false_or_eq_true (ss.any (fun s=>s.2.2.any (fun c=>c.toNat==j))) with h2|h2<;>simp only[h1,h2,Bool.or_true,Bool.true_or,Bool.or_false,Bool.false_eq_true,if_true,if_false]
def seatedB (S:List Slt) (j:Nat):Bool:=S.any fun s=>s.2.2.any fun c=>c.toNat==j
theorem m0_get {p:Pr} {j:Nat} (hj:j<p.M.length):(m0F p).getD j 0=if seatedB (slotsF p.g) j then p.M.getD j 0 else 0:=by
 unfold m0F seatedB
 rw[seatS_get _ _ _ _ (by simpa using hj)]
 have e:(List.replicate p.M.length 0).getD j 0=0:=by
  rw[List.getD_eq_getElem?_getD,List.getElem?_replicate]
  split<;>rfl
 rw[e]
theorem m0_len (p:Pr):(m0F p).length=p.M.length:=by
 unfold m0F
 rw[seatSlots_len]
 simp
theorem again_check {p:Pr} {m:List Nat} (hl:m.length=p.M.length):checkP ⟨p.g,p.W,m⟩=checkP p:=by
 unfold checkP
 simp only[hl]
end Go.Proofs.YtnakmganodkliaaDoorAm
namespace Go.Proofs.YtnakmganodkliaaDoorAm
open Go
theorem narM_eq {p:Pr} (h:checkP p=0):narM p=gfpF p.W (slotsF p.g) (m0F p):=if_pos h
theorem narW_eq {p:Pr} (h:checkP p=0):narW p=wordsF p.W (slotsF p.g) (narM p):=if_pos h
theorem narO_eq {p:Pr} (h:checkP p=0):narO p=okF (slotsF p.g) (narM p) (narW p):=if_pos h
theorem narW_len {p:Pr} (h:checkP p=0):(narW p).length=(slotsF p.g).length:=by rw[narW_eq h];simp[wordsF]
theorem narW_at {p:Pr} (h:checkP p=0) {j:Nat} (hj:j< (slotsF p.g).length):(narW p).getD j []=idxF (fitL (narM p) (sAtN (slotsF p.g) j).2.2) 0 p.W:=by
 rw[narW_eq h]
 unfold wordsF
 simp[List.getD_eq_getElem?_getD,hj,sAtN]
theorem nar_stable {p:Pr} (h:checkP p=0):Stable p.W (slotsF p.g) (narM p):=by rw[narM_eq h];exact gfp_stable _ _ _
theorem nar_leq {p:Pr} (h:checkP p=0):Leq (narM p) (m0F p):=by rw[narM_eq h];exact gfp_leq _ _ _
theorem nar_small {p:Pr} (h:checkP p=0) (hM:Smalls p.M):Smalls (narM p):=leq_small (nar_leq h) (by
 unfold m0F
 exact seatSlots_small hM _ (rep_small _))
theorem m0_leq {p:Pr}:Leq (m0F p) p.M:=by
 intro c i hi
 have hc:c<p.M.length:=by have:=bit_lt hi;rwa [m0_len] at this
 unfold bitAt at hi⊢
 rw[m0_get hc] at hi
 split at hi
 ·exact hi
 ·simp at hi
theorem nar_given {p:Pr} (h:checkP p=0):Leq (narM p) p.M:=(nar_leq h).trans m0_leq
theorem m0_mono {p:Pr} {M':List Nat} (hl:M'.length=p.M.length) (h:Leq M' p.M):Leq (m0F ⟨p.g,p.W,M'⟩) (m0F p):=by
 intro c i hi
 have hc:c<p.M.length:=by
  have:=bit_lt hi
  rw[m0_len] at this
  simpa only[hl] using this
 unfold bitAt at hi⊢
 rw[m0_get (p:=⟨p.g,p.W,M'⟩) (by simpa only[hl] using hc)] at hi
 rw[m0_get hc]
 simp only at hi
 split at hi
 ·rename_i hs
  rw[if_pos hs]
  exact h c i hi
 ·simp at hi
theorem gfp_mono {W:List (List Int)} {S:List Slt} {a b:List Nat} (h:Leq a b):Leq (gfpF W S a) (gfpF W S b):=gfp_most W S b (gfp_stable W S a) ((gfp_leq W S a).trans h)
theorem nar_mono {p:Pr} (h:checkP p=0) {M':List Nat} (hl:M'.length=p.M.length) (hM:Leq M' p.M):Leq (narM ⟨p.g,p.W,M'⟩) (narM p):=by
 have hc:checkP ⟨p.g,p.W,M'⟩=0:=by rw[again_check hl];exact h
 rw[narM_eq hc,narM_eq h]
 exact gfp_mono (m0_mono hl hM)
theorem idx_leq {W:List (List Int)} {a b:List Nat} (h:Leq a b) (C:List Int):(idxF (fitL a C) 0 W).Sublist (idxF (fitL b C) 0 W):=by
 have e:keepI W a C (idxF (fitL b C) 0 W)=idxF (fitL a C) 0 W:=keep_idx fun w hw=>fit_mono h hw
 rw[←e]
 unfold keepI
 exact List.filter_sublist
theorem ok_mono {W:List (List Int)} {S:List Slt} {a b:List Nat} (h:Leq a b) (hk:okF S a (wordsF W S a)=true):okF S b (wordsF W S b)=true:=by
 unfold okF wordsF at hk⊢
 rw[Bool.and_eq_true,List.all_eq_true,List.all_eq_true] at hk⊢
 refine⟨fun w hw=> ?_,fun s hs=> ?_⟩
 ·rw[List.mem_map] at hw
  obtain⟨s,hs,e⟩:=hw
  have h1:=hk.1 _ (List.mem_map_of_mem hs)
  have h2:=(idx_leq (W:=W) h s.2.2).length_le
  rw[decide_eq_true_eq] at h1⊢
  rw[←e]
  omega
 ·have h1:=hk.2 s hs
  rw[List.all_eq_true] at h1⊢
  intro c hc
  have h3:=h1 c hc
  rw[bne_iff_ne] at h3⊢
  intro e
  apply h3
  have:a.getD c.toNat 0≤b.getD c.toNat 0:=sub_le fun i hi=>h _ i hi
  omega
theorem narO_mono {p:Pr} (h:checkP p=0) {M':List Nat} (hl:M'.length=p.M.length) (hM:Leq M' p.M) (hk:narO ⟨p.g,p.W,M'⟩=true):narO p=true:=by
 have hc:checkP ⟨p.g,p.W,M'⟩=0:=by rw[again_check hl];exact h
 rw[narO_eq hc,narW_eq hc] at hk
 rw[narO_eq h,narW_eq h]
 exact ok_mono (nar_mono h hl hM) hk
def letM (ls:List Int):List Nat:=ls.map bitN
theorem letM_bit {ls:List Int} {c i:Nat} (h:bitAt (letM ls) c i):ls.getD c (-1)=(i:Int)∧i<64∧c<ls.length:=by
 have hc:c<ls.length:=by have:=bit_lt h;simpa [letM] using this
 unfold bitAt letM at h
 have e:(ls.map bitN).getD c 0=bitN ls[c]:=by rw[List.getD_eq_getElem?_getD,List.getElem?_map,List.getElem?_eq_getElem hc];rfl
 have e2:ls.getD c (-1)=ls[c]:=by rw[List.getD_eq_getElem?_getD,List.getElem?_eq_getElem hc];rfl
 rw[e] at h
 rw[e2]
 unfold bitN at h
 split at h
 ·simp at h
 ·rename_i hb
  rw[Nat.testBit_two_pow,decide_eq_true_eq] at h
  omega
theorem letM_has {ls:List Int} {c:Nat} {x:Int} (h:ls.getD c (-1)=x) (h0:0≤x) (h1:x<64):bitAt (letM ls) c x.toNat:=by
 have hc:c<ls.length:=by
  apply Nat.lt_of_not_le
  intro hle
  rw[List.getD_eq_getElem?_getD,List.getElem?_eq_none hle] at h
  simp at h
  omega
 have e2:ls.getD c (-1)=ls[c]:=by rw[List.getD_eq_getElem?_getD,List.getElem?_eq_getElem hc];rfl
 rw[e2] at h
 unfold bitAt letM
 have e:(ls.map bitN).getD c 0=bitN ls[c]:=by rw[List.getD_eq_getElem?_getD,List.getElem?_map,List.getElem?_eq_getElem hc];rfl
 rw[e,h]
 unfold bitN
 rw[if_neg (by omega),Nat.testBit_two_pow,decide_eq_true_eq]
structure Picked (p:Pr) (pick:List Int) (n:Nat) (ls:List Int):Prop where
 len:ls.length=p.M.length
 low:∀c,0≤ls.getD c (-1)→hasN (p.M.getD c 0) (ls.getD c (-1))=true∧seatedB (slotsF p.g) c=true
 word:∀s,s<n→0≤pick.getD s 0∧pick.getD s 0<p.W.length∧(wordAt p.W (pick.getD s 0)).length=(sAtN (slotsF p.g) s).2.2.length
 here:∀s,s<n→∀j x,(sAtN (slotsF p.g) s).2.2[j]? =some x→ls.getD x.toNat (-1)=(wordAt p.W (pick.getD s 0)).getD j 0∧0≤ls.getD x.toNat (-1)
theorem has_lt {m:Nat} {x:Int} (h:hasN m x=true):0≤x∧x<64:=by
 unfold hasN at h
 simp only[Bool.and_eq_true,decide_eq_true_eq] at h
 exact⟨h.1,h.2.1⟩
theorem Picked.fit {p:Pr} {pick:List Int} {n:Nat} {ls:List Int} (q:Picked p pick n ls) {s:Nat} (hs:s<n):fitL (letM ls) (sAtN (slotsF p.g) s).2.2 (wordAt p.W (pick.getD s 0))=true:=by
 rw[fit_iff]
 refine⟨(q.word s hs).2.2,fun j x hx=> ?_⟩
 obtain⟨e,h0⟩:=q.here s hs j x hx
 have h1:=has_lt (q.low _ h0).1
 rw[has_bit,←e]
 exact⟨h1.1,h1.2,letM_has rfl h1.1 h1.2⟩
theorem word_in {W:List (List Int)} {i:Int} (h0:0≤i) (h1:i<W.length):wordAt W i∈W:=getD_in (by omega)
theorem Picked.stable {p:Pr} {pick:List Int} {n:Nat} {ls:List Int} (q:Picked p pick n ls) (hn:n=(slotsF p.g).length):Stable p.W (slotsF p.g) (letM ls):=by
 intro t ht j x hx i hi
 obtain⟨s,hs,e⟩:=List.getElem_of_mem ht
 have et:sAtN (slotsF p.g) s=t:=by
  unfold sAtN
  rw[List.getD_eq_getElem?_getD,List.getElem?_eq_getElem hs]
  exact e
 rw[←et] at hx⊢
 have hs':s<n:=by omega
 obtain⟨e1,h0⟩:=q.here s hs' j x hx
 obtain⟨e2,hi64,_⟩:=letM_bit hi
 have hw:=q.word s hs'
 exact(there_bits _ _ _ _).2 ⟨hi64,_,word_in hw.1 hw.2.1,q.fit hs',by rw[←e1,e2]⟩
theorem Picked.below {p:Pr} {pick:List Int} {n:Nat} {ls:List Int} (q:Picked p pick n ls):Leq (letM ls) (m0F p):=by
 intro c i hi
 obtain⟨e,hi64,hc⟩:=letM_bit hi
 have h1:=q.low c (by omega)
 have hcM:c<p.M.length:=by have:=q.len;omega
 unfold bitAt
 rw[m0_get hcM,if_pos h1.2]
 have h2:=(has_bit.1 h1.1).2.2
 rw[e] at h2
 exact h2
theorem Picked.leq {p:Pr} {pick:List Int} {n:Nat} {ls:List Int} (hc:checkP p=0) (q:Picked p pick n ls) (hn:n=(slotsF p.g).length):Leq (letM ls) (narM p):=by
 rw[narM_eq hc]
 exact gfp_most _ _ _ (q.stable hn) q.below
theorem idx_mem {f:List Int→Bool}:∀{V:List (List Int)} {i k:Int},0≤k→k<V.length→f (V.getD k.toNat [])=true→i+k∈idxF f i V
 | [],i,k,h0,h1,_=>by simp at h1;omega
 |v::V,i,k,h0,h1,hf=>by
  simp only[idxF]
  have hl:((v::V).length:Int)=V.length+1:=by simp
  by_cases e:k=0
  ·subst e
   simp at hf
   rw[if_pos hf]
   simp
  ·have ek:k.toNat=(k-1).toNat+1:=by omega
   rw[ek,List.getD_cons_succ] at hf
   have:=idx_mem (i:=i+1) (k:=k-1) (by omega) (by omega) hf
   rw[show i+1+(k-1)=i+k by omega] at this
   split
   ·exact List.mem_cons_of_mem _ this
   ·exact this
theorem Picked.found {p:Pr} {pick:List Int} {n:Nat} {ls:List Int} (hc:checkP p=0) (q:Picked p pick n ls) (hn:n=(slotsF p.g).length) {s:Nat} (hs:s<n):pick.getD s 0∈(narW p).getD s []:=by
 rw[narW_at hc (by omega)]
 have hw:=q.word s hs
 have:=idx_mem (f:=fitL (narM p) (sAtN (slotsF p.g) s).2.2) (V:=p.W) (i:=0) hw.1 hw.2.1 (fit_mono (q.leq hc hn) (q.fit hs))
 rwa [Int.zero_add] at this
theorem Picked.left {p:Pr} {pick:List Int} {n:Nat} {ls:List Int} (hc:checkP p=0) (q:Picked p pick n ls) (hn:n=(slotsF p.g).length) {c:Nat} (h0:0≤ls.getD c (-1)):hasN ((narM p).getD c 0) (ls.getD c (-1))=true:=by
 have h1:=has_lt (q.low c h0).1
 exact has_bit.2 ⟨h1.1,h1.2,q.leq hc hn _ _ (letM_has rfl h1.1 h1.2)⟩
theorem Picked.ok {p:Pr} {pick:List Int} {n:Nat} {ls:List Int} (hc:checkP p=0) (q:Picked p pick n ls) (hn:n=(slotsF p.g).length):narO p=true:=by
 rw[narO_eq hc]
 unfold okF
 rw[Bool.and_eq_true,List.all_eq_true,List.all_eq_true]
 refine⟨fun w hw=> ?_,fun t ht=> ?_⟩
 ·obtain⟨s,hs,e⟩:=List.getElem_of_mem hw
  have hs':s<n:=by rw[narW_len hc] at hs;omega
  have h1:=q.found hc hn hs'
  have e2:(narW p).getD s []=w:=by rw[List.getD_eq_getElem?_getD,List.getElem?_eq_getElem hs];exact e
  rw[e2] at h1
  have:=List.length_pos_of_mem h1
  rw[decide_eq_true_eq]
  omega
 ·rw[List.all_eq_true]
  intro x hx
  obtain⟨s,hs,e⟩:=List.getElem_of_mem ht
  have et:sAtN (slotsF p.g) s=t:=by
   unfold sAtN
   rw[List.getD_eq_getElem?_getD,List.getElem?_eq_getElem hs]
   exact e
  rw[←et] at hx
  obtain⟨j,hj⟩:=List.getElem?_of_mem hx
  have h1:=(has_bit.1 (q.left hc hn (q.here s (by omega) j x hj).2)).2.2
  rw[bne_iff_ne]
  intro e0
  unfold bitAt at h1
  rw[e0] at h1
  simp at h1
end Go.Proofs.YtnakmganodkliaaDoorAm
set_option maxRecDepth 100000
namespace Go.Proofs.YtnakmganodkliaaDoorAm
open Go
abbrev slQ (L:List (Int×Int)):D:= .sl false false SeT L
abbrev slBd (B:List (List (Int×Int))):D:= .sl false false (.sl SeT) B
theorem con_nn {P:Program} {f:FuncId} {pre:List Row} {t:Ty} {xs:List t.El} {val:D} {post:List (Option Row)} {allocs:List Row} (hne:xs≠ []) (h:Con P f pre [.sl true false t xs] val post allocs):Con P f pre [.sl false false t xs] val post allocs:=by
 refine⟨h.fn,fun w ρ S vs M hargs=>h.run w ρ S vs M ?_⟩
 simp only[RelDs,RelD] at hargs⊢
 obtain⟨u,us',e,⟨A,c,us,e2,h1,h2,h3,h4,h5,h6⟩,hr⟩:=hargs
 refine⟨u,us',e,⟨A,c,us,e2,h1,h2,fun _ hA=> ?_,h4,h5,h6⟩,hr⟩
 have:=h2 hA
 have:0<xs.length:=List.length_pos_iff.2 hne
 omega
def givenF:List (Int×Int)→List Nat→List Nat
 | [],m=>m
 |x::xs,m=>givenF xs (m.set x.1.toNat (m.getD x.1.toNat 0&&&ofN [x.2]))
theorem ofN_one (x:Int):ofN [x]=bitN x:=by
 unfold ofN bitN
 simp only[ofA]
 by_cases h:0≤x∧x<64
 ·rw[if_pos h,if_neg (by omega),Nat.zero_or]
 ·rw[if_neg h,if_pos (by omega)]
theorem given_len:∀(F:List (Int×Int)) (m:List Nat),(givenF F m).length=m.length
 | [],_=>rfl
 |x::F,m=>by simp only[givenF];rw[given_len F];simp
theorem given_small:∀(F:List (Int×Int)) {m:List Nat},Smalls m→Smalls (givenF F m)
 | [],_,h=>h
 |x::F,m,h=>by
  simp only[givenF]
  refine given_small F ?_
  intro y hy
  rcases List.mem_or_eq_of_mem_set hy with h'|h'
  ·exact h y h'
  ·subst h'
   exact and_lt (h.at _)
def hereB (m:List Nat) (x:Int×Int):Bool:=hasN (m.getD x.1.toNat 0) x.2
def openB (m:List Nat) (x:Int×Int):Bool:=m.getD x.1.toNat 0 !=bitN x.2
def oneF:List (Int×Int)→Int×(Int×Int)
 | []=>(2,(0,0))
 |x::xs=>if xs.all (fun y=>y==x) then(1,x) else(0,(0,0))
def unitF (m:List Nat) (l:List (Int×Int)):Int×(Int×Int):=if l.all (hereB m) then oneF (l.filter (openB m)) else(0,(0,0))
def passF:List (List (Int×Int))→List Nat→Int→List Nat×Int
 | [],m,st=>(m,st)
 |l::ls,m,st=>if(unitF m l).1=2 then(m,2) else if(unitF m l).1=1 then passF ls (m.set (unitF m l).2.1.toNat (m.getD (unitF m l).2.1.toNat 0-bitN (unitF m l).2.2)) 1 else passF ls m st
def spreadF (g:Gr) (W:List (List Int)) (B:List (List (Int×Int))):Nat→List Nat→List Nat×Bool
 |0,q=>(q,true)
 |n+1,q=>if narO ⟨g,W,q⟩ then
   (if(passF B (narM ⟨g,W,q⟩) 0).2=2 then((passF B (narM ⟨g,W,q⟩) 0).1,false)
    else if(passF B (narM ⟨g,W,q⟩) 0).2=1 then spreadF g W B n (passF B (narM ⟨g,W,q⟩) 0).1
    else((passF B (narM ⟨g,W,q⟩) 0).1,true))
  else(narM ⟨g,W,q⟩,false)
def spreadG (p:Pr) (F:List (Int×Int)) (B:List (List (Int×Int))):List Nat×Bool:=spreadF p.g p.W B ((givenF F p.M).sum+1) (givenF F p.M)
def spR:Sp:=fun f args rd=>match f,args with
 |139,[m]=>match slC rd (.int .u64) [m] with
  |some M=>some {f:=139,args:=[slU (Nt M)],val:= .own 0 0 (Nt M).length none,allocs:=[.data 22 (.int .u64) (Mi (Nt M))],lent:=refsDs [m]}
  |none=>none
 |122,[.agg [.v (.int _ h),.v (.int _ w),b,r,l,ws,ms],fx]=>withP rd h w b r l ws ms fun p ls=>match slC rd SeT [fx] with
  |some F=>some {f:=122,args:=[p.d,slQ F],val:= .own 0 0 p.M.length none,allocs:=[.data 22 (.int .u64) (Mi (givenF F p.M))],lent:=ls++refsDs [fx]}
  |none=>none
 |126,[m,l]=>match slC rd (.int .u64) [m],slC rd SeT [l] with
  |some M,some L=>some {f:=126,args:=[slU (Nt M),slQ L],val:= .tup [.v (.int .i64 (unitF (Nt M) L).1),.agg [.v (.int .i64 (unitF (Nt M) L).2.1),.v (.int .i64 (unitF (Nt M) L).2.2)]],lent:=refsDs [m,l]}
  |_,_=>none
 |92,[.agg [.v (.int _ h),.v (.int _ w),b,r,l,ws,ms],fx,bd]=>withP rd h w b r l ws ms fun p ls=>match slC rd SeT [fx],slC rd (.sl SeT) [bd] with
  |some F,some B=>some {f:=92,args:=[p.d,slQ F,slBd B],val:= .tup [.own 0 0 (spreadG p F B).1.length none,.v (.bool (spreadG p F B).2)],allocs:=[.data 22 (.int .u64) (Mi (spreadG p F B).1)],lent:=ls++refsDs [fx,bd]}
  |_,_=>none
 |94,[.agg [.v (.int _ h),.v (.int _ w),b,r,l,ws,ms],fx,bd]=>withP rd h w b r l ws ms fun p ls=>match slC rd SeT [fx],slC rd (.sl SeT) [bd] with
  |some F,some B=>some {f:=94,args:=[p.d,slQ F,slBd B],val:= .v (.bool (!(spreadG p F B).2)),lent:=ls++refsDs [fx,bd]}
  |_,_=>none
 |f,args=>spNb f args rd
theorem room22 {n:Nat} (h:n≤17592186044416):roomy Tryd.prog 22 n:=by
 unfold roomy
 rw[show Tryd.prog.bytesOf 22=8 by kernel_rfl]
 omega
theorem room92 {n:Nat} (h:n≤8796093022208):roomy Tryd.prog 92 n:=by
 unfold roomy
 rw[show Tryd.prog.bytesOf 92=16 by kernel_rfl]
 omega
theorem oneF_all (O:List (Int×Int)):oneF O=if O=[] then(2,(0,0)) else if O.all (fun y=>y==O.getD 0 (0,0)) then(1,O.getD 0 (0,0)) else(0,(0,0)):=by
 cases O with
 |nil=>rfl
 |cons x xs=>
  rw[if_neg (by simp)]
  simp only[oneF,List.getD_cons_zero,List.all_cons,beq_self_eq_true,Bool.true_and]
noncomputable def r139:Code:=(Tryd.f139.body).getD .skip
noncomputable def r122:Code:=(Tryd.f122.body).getD .skip
noncomputable def r92:Code:=(Tryd.f92.body).getD .skip
noncomputable def r90:Code:=(Tryd.f90.body).getD .skip
noncomputable def r55:Code:=(Tryd.f55.body).getD .skip
end Go.Proofs.YtnakmganodkliaaDoorAm
set_option maxRecDepth 100000
namespace Go.Proofs.YtnakmganodkliaaDoorAm
open Go
theorem d139t (M:List Nat) (hl:M.length≤17592186044416):Con Tryd.prog 139 [] [.sl true false (.int .u64) (Mi M)] (.own 0 0 M.length none) [] [.data 22 (.int .u64) (Mi M)]:=by
 refine con_vc (how:=[none]) (c:=r139) (K:=(KK r139)) spR (fun _=> []) (fun _=> []) 400 (.fork .stop .stop) (V:=fun G R=>(false=true→R (D.v (Value.slice none 0 0),[],[]))∧(false=false→roomy Tryd.prog 22 (0+(Mi M).length)∧R (D.own 0 0 (0+(Mi M).length) none,[],[Row.data 22 (Ty.int .u64) (List.take 0 (List.drop 0 [])++Mi M)]))) hmG Tryd.func139 (by kernel_rfl) (by kernel_rfl) (fun G R=>by kernel_rfl) ?_
 try dsimp only
 simp only[take_len,List.drop_zero,List.take_length,Mi_getD,Mi_len,Nt_Mi,Int.toNat_natCast,Mi_set,Nat.zero_add,Nat.sub_zero,List.length_set,take_one,takeSn,List.take_zero,List.nil_append,List.length_append,List.length_cons,List.length_nil]
 simp (disch:=omega) only[oo,oop,ne_eq,Ty.dflt,reduceCtorEq]
 repeat' (first|with_reducible refine And.intro ?_ ?_|intro _)
 all_goals first|rfl|omega|assumption|trivial|exact room22 (by omega)|exact room92 (by omega)|(exfalso;simp_all;done)|(exfalso;omega)|skip
theorem d139 (M:List Nat) (hM:M≠ []) (hl:M.length≤17592186044416):Con Tryd.prog 139 [] [slU M] (.own 0 0 M.length none) [] [.data 22 (.int .u64) (Mi M)]:=con_nn (by
 intro e
 apply hM
 have:=congrArg List.length e
 rw[Mi_len] at this
 exact List.length_eq_zero_iff.1 this) (d139t M hl)
def vq20 (F:List (Int×Int)) (i:Int) (Q:List Nat) (G:Nat→St→Prop) (R:D×List (Option Row)×List Row→Prop):Prop:=let yy0:=(F.getD i.toNat ((Ty.int .i64).prod (Ty.int .i64)).dflt);let yy1:=(List.drop 0 [yy0.snd]);(decide (i< (↑F.length:Int))=true→(0:Int)≤i∧i< (↑F.length:Int)∧(0:Int)≤yy0.fst∧yy0.fst< (↑Q.length:Int)∧0+Int.toNat yy0.fst< (Mi Q).length∧Con Tryd.prog 24 [] [D.sl false false (Ty.int .i64) (List.take 1 yy1)] (D.v (Value.int .u64 (↑(ofN (List.take 1 yy1)):Int))) [] []∧List.take 1 yy1=List.take 1 yy1∧(0:Int)≤yy0.fst∧yy0.fst< (↑Q.length:Int)∧0+Int.toNat yy0.fst< (Mi Q).length∧SameK (KK r122 0) (KK r122 0)∧G 0 (stOf 30 [5,11,12,13] [D.own 0 0 Q.length none,D.sl false false ((Ty.int .i64).prod (Ty.int .i64)) F,D.v (Value.int .i64 (↑F.length:Int)),D.v (Value.int .i64 (IntKind.i64.wrap (i+(1:Int))))] [Slot.live (Row.data 22 (Ty.int .u64) ((Mi Q).set (0+Int.toNat yy0.fst) (IntKind.u64.wrap (↑(BitVec.ofInt 64 ((Mi Q).getD (0+Int.toNat yy0.fst) (Ty.int .u64).dflt)&&&BitVec.ofInt 64 (↑(ofN (List.take 1 yy1)):Int)).toNat:Int))))]))∧(decide (i< (↑F.length:Int))=false→R (D.own 0 0 Q.length none,[],[Row.data 22 (Ty.int .u64) (Mi Q)]))
theorem e122 (F:List (Int×Int)) (QE:List Nat) (hFl:F.length≤8796093022208) (hF:∀x∈F,0≤x.1∧x.1<QE.length) (z:Nat):∀(i:Int) (Q:List Nat),0≤i→i+z=F.length→Smalls Q→Q.length=QE.length→givenF (F.drop i.toNat) Q=QE→GetsK Tryd.prog Tryd.f122.results.toList [none] (KK r122) 0 (.own 0 0 QE.length none,[],[.data 22 (.int .u64) (Mi QE)]) 0 (stOf 30 [5,11,12,13] [.own 0 0 Q.length none,slQ F,.v (.int .i64 F.length),.v (.int .i64 i)] [.live (.data 22 (.int .u64) (Mi Q))]):=by
 induction z with
 |zero=>
  intro i Q i0 hi hQ hl he
  rw[List.drop_eq_nil_of_le (by omega)] at he
  have he:Q=QE:=he
  subst he
  refine gets_vc spR (fun _=> [5,11,12,13]) (fun _=> []) 400 (.fork (.hd 0) .stop) (V:=vq20 F i Q) hmG (fun G R=>by kernel_rfl) ?_
  unfold vq20
  try dsimp only
  simp (disch:=omega) only[oo,oop,ne_eq,Ty.dflt,reduceCtorEq]
  repeat' (first|with_reducible refine And.intro ?_ ?_|intro _)
  all_goals first|rfl|omega|assumption|trivial|exact room22 (by omega)|exact room92 (by omega)|(exfalso;simp_all;done)|(exfalso;omega)|skip
 |succ z ih=>
  intro i Q i0 hi hQ hl he
  have hk1:IntKind.i64.wrap (i+1)=i+1:=wrG (by omega) (by omega)
  have hx:=hF _ (getD_in (d:=(0,0)) (k:=i.toNat) (l:=F) (by omega))
  rw[drop_at (xs:=F) (i:=i) (0,0) i0 (by omega)] at he
  obtain⟨x,hxx⟩:∃x,F.getD i.toNat (0,0)=x:=⟨_,rfl⟩
  rw[hxx] at hx he
  simp only[givenF] at he
  have hof:ofN [x.2]<W64:=of_lt _ _ (by decide)
  have e1:=wrap_and (a:=Q.getD x.1.toNat 0) (b:=ofN [x.2]) (hQ.at _) hof
  have hs:Smalls (Q.set x.1.toNat (Q.getD x.1.toNat 0&&&ofN [x.2])):=by
   have:=given_small [x] hQ
   exact this
  have h1:=ih (i+1) _ (by omega) (by omega) hs (by rw[List.length_set];exact hl) he
  rw[List.length_set] at h1
  have c1:=d67 [x.2] (by simp)
  refine gets_vc spR (fun _=> [5,11,12,13]) (fun _=> []) 400 (.fork (.hd 0) .stop) (V:=vq20 F i Q) hmG (fun G R=>by kernel_rfl) ?_
  unfold vq20
  try dsimp only
  simp only[Ty.dflt,hk1,hxx,take_len,List.drop_zero,List.take_length,Mi_getD,Mi_len,Nt_Mi,Int.toNat_natCast,Mi_set,Nat.zero_add,Nat.sub_zero,List.length_set,take_one,takeSn,List.take_zero,List.nil_append,List.length_append,List.length_cons,List.length_nil,e1]
  simp (disch:=omega) only[oo,oop,ne_eq,Ty.dflt,reduceCtorEq]
  repeat' (first|with_reducible refine And.intro ?_ ?_|intro _)
  all_goals first|rfl|omega|assumption|trivial|exact room22 (by omega)|exact room92 (by omega)|(exfalso;simp_all;done)|(exfalso;omega)|skip
theorem d122R (g:Gr) (W:List (List Int)) (M:List Nat) (F:List (Int×Int)) (hM:Smalls M) (hM0:M≠ []) (hMl:M.length≤17592186044416) (hFl:F.length≤8796093022208) (hF:∀x∈F,0≤x.1∧x.1<M.length):Con Tryd.prog 122 [] [.agg [.v (.int .i64 g.h),.v (.int .i64 g.w),.sl false false .bool g.B,.sl false false .bool g.R,.sl false false .bool g.L,slW W,slU M],slQ F] (.own 0 0 M.length none) [] [.data 22 (.int .u64) (Mi (givenF F M))]:=by
 refine con_vc (how:=[none]) (c:=r122) (K:=(KK r122)) spR (fun _=> [5,11,12,13]) (fun _=> []) 400 (.hd 0) (V:=fun G R=>Con Tryd.prog 139 [] [D.sl false false (Ty.int .u64) (Mi (Nt (Mi M)))] (D.own 0 0 (Nt (Mi M)).length none) [] [Row.data 22 (Ty.int .u64) (Mi (Nt (Mi M)))]∧Mi M=Mi (Nt (Mi M))∧SameK (KK r122 0) (KK r122 0)∧G 0 (stOf 30 [5,11,12,13] [D.own 0 0 (Nt (Mi M)).length none,D.sl false false ((Ty.int .i64).prod (Ty.int .i64)) F,D.v (Value.int .i64 (↑F.length:Int)),D.v (Value.int .i64 (0:Int))] [Slot.live (Row.data 22 (Ty.int .u64) (Mi (Nt (Mi M))))])) hmG Tryd.func122 (by kernel_rfl) (by kernel_rfl) (fun G R=>by kernel_rfl) ?_
 try dsimp only
 have c1:=d139 M hM0 hMl
 have hg:=given_len F M
 have hx:=e122 F (givenF F M) hFl (by rw[hg];exact hF) F.length 0 M (by omega) (by omega) hM hg.symm rfl
 rw[hg] at hx
 simp only[Nt_Mi]
 simp (disch:=omega) only[oo,oop,ne_eq,Ty.dflt,reduceCtorEq]
 repeat' (first|with_reducible refine And.intro ?_ ?_|intro _)
 all_goals first|rfl|omega|assumption|trivial|exact room22 (by omega)|exact room92 (by omega)|(exfalso;simp_all;done)|(exfalso;omega)|skip
end Go.Proofs.YtnakmganodkliaaDoorAm
namespace Go.Proofs.YtnakmganodkliaaDoorAm
open Go
theorem andn_sub {a b:Nat} (ha:a<W64) (hb:b<W64) (h:b&&&a=b):IntKind.u64.wrap ((BitVec.ofInt 64 (a:Int)&&& ~~~BitVec.ofInt 64 (b:Int)).toNat:Int)=((a-b:Nat):Int):=by
 have hle:b≤a:=by rw[←h];exact Nat.and_le_right
 have e:(BitVec.ofNat 64 a&&& ~~~BitVec.ofNat 64 b)=BitVec.ofNat 64 a-BitVec.ofNat 64 b:=by
  have hd:(BitVec.ofNat 64 a&&& ~~~BitVec.ofNat 64 b)&&&BitVec.ofNat 64 b=0#64:=by
   apply BitVec.eq_of_getLsbD_eq
   intro i hi
   simp only[BitVec.getLsbD_and,BitVec.getLsbD_not,BitVec.getLsbD_ofNat,BitVec.getLsbD_zero,hi,decide_true,Bool.true_and]
   cases a.testBit i<;>cases b.testBit i<;>simp
  have hor:(BitVec.ofNat 64 a&&& ~~~BitVec.ofNat 64 b)|||BitVec.ofNat 64 b=BitVec.ofNat 64 a:=by
   apply BitVec.eq_of_getLsbD_eq
   intro i hi
   have h2:=congrArg (fun n:Nat=>n.testBit i) h
   simp only[Nat.testBit_and] at h2
   simp only[BitVec.getLsbD_or,BitVec.getLsbD_and,BitVec.getLsbD_not,BitVec.getLsbD_ofNat,hi,decide_true,Bool.true_and]
   revert h2
   cases a.testBit i<;>cases b.testBit i<;>simp
  have hadd:(BitVec.ofNat 64 a&&& ~~~BitVec.ofNat 64 b)+BitVec.ofNat 64 b=BitVec.ofNat 64 a:=by
   rw[BitVec.add_eq_or_of_and_eq_zero _ _ hd,hor]
  rw[←BitVec.add_sub_cancel (BitVec.ofNat 64 a&&& ~~~BitVec.ofNat 64 b) (BitVec.ofNat 64 b),hadd]
 rw[BitVec.ofInt_natCast,BitVec.ofInt_natCast,e,BitVec.toNat_sub,BitVec.toNat_ofNat,BitVec.toNat_ofNat,Nat.mod_eq_of_lt ha,Nat.mod_eq_of_lt hb]
 have e2:(2^64-b+a)%2^64=a-b:=by
  have:(2^64-b+a)=2^64+(a-b):=by
   have:b<2^64:=hb
   omega
  rw[this,Nat.add_mod_left,Nat.mod_eq_of_lt]
  have:a<2^64:=ha
  omega
 rw[e2]
 exact wrU' (by omega)
theorem has_sub {v:Nat} {y:Int} (h:hasN v y=true):bitN y&&&v=bitN y∧0<bitN y∧bitN y≤v∧bitN y<W64:=by
 have h1:=has_lt h
 have e:bitN y=2^y.toNat:=by unfold bitN;rw[if_neg (by omega)]
 have hb:v.testBit y.toNat=true:=by
  unfold hasN at h
  simp only[Bool.and_eq_true,decide_eq_true_eq] at h
  exact h.2.2
 have ha:bitN y&&&v=bitN y:=by
  rw[e]
  apply Nat.eq_of_testBit_eq
  intro i
  rw[Nat.testBit_and,Nat.testBit_two_pow]
  by_cases hi:y.toNat=i
  ·subst hi;rw[hb];simp
  ·simp[hi]
 refine⟨ha,by rw[e];exact Nat.two_pow_pos _,?_,by rw[e];exact u64_mask (by omega)⟩
 rw[←ha]
 exact Nat.and_le_right
def restU (m:List Nat) (op:Int) (a:Int×Int) (xs:List (Int×Int)):Int×(Int×Int):=
 if xs.all (hereB m) then(if op=0 then oneF (xs.filter (openB m)) else if(xs.filter (openB m)).all (fun y=>y==a) then(1,a) else(0,(0,0))) else(0,(0,0))
theorem restU_nil0 {m:List Nat} {a:Int×Int}:restU m 0 a []=(2,(0,0)):=rfl
theorem restU_nil1 {m:List Nat} {a:Int×Int}:restU m 1 a []=(1,a):=rfl
theorem restU_no {m:List Nat} {op:Int} {a x:Int×Int} {xs:List (Int×Int)} (h:hereB m x=false):restU m op a (x::xs)=(0,(0,0)):=by
 unfold restU
 rw[List.all_cons,h,Bool.false_and,if_neg (by simp)]
theorem restU_shut {m:List Nat} {op:Int} {a x:Int×Int} {xs:List (Int×Int)} (h:hereB m x=true) (ho:openB m x=false):restU m op a (x::xs)=restU m op a xs:=by
 unfold restU
 rw[List.all_cons,h,Bool.true_and,List.filter_cons]
 simp only[ho,Bool.false_eq_true,if_false]
theorem restU_first {m:List Nat} {a x:Int×Int} {xs:List (Int×Int)} (h:hereB m x=true) (ho:openB m x=true):restU m 0 a (x::xs)=restU m 1 x xs:=by
 unfold restU
 rw[List.all_cons,h,Bool.true_and,List.filter_cons]
 simp only[ho,if_true,eq_self,oneF,show((1:Int)=0)=False from by simp,if_false,Int.reduceEq]
theorem restU_same {m:List Nat} {a x:Int×Int} {xs:List (Int×Int)} (h:hereB m x=true) (ho:openB m x=true) (e:a=x):restU m 1 a (x::xs)=restU m 1 a xs:=by
 subst e
 unfold restU
 rw[List.all_cons,h,Bool.true_and,List.filter_cons]
 simp only[ho,if_true,show((1:Int)=0)=False from by simp,if_false,List.all_cons,beq_self_eq_true,Bool.true_and]
theorem restU_diff {m:List Nat} {a x:Int×Int} {xs:List (Int×Int)} (h:hereB m x=true) (ho:openB m x=true) (e:a≠x):restU m 1 a (x::xs)=(0,(0,0)):=by
 have hx:(x==a)=false:=by rw[beq_eq_false_iff_ne];exact fun q=>e q.symm
 unfold restU
 rw[List.all_cons,h,Bool.true_and,List.filter_cons]
 simp only[ho,if_true,show((1:Int)=0)=False from by simp,if_false,List.all_cons,hx,Bool.false_and,Bool.false_eq_true,ite_self]
theorem unit_one {m:List Nat} {l:List (Int×Int)} (h:(unitF m l).1=1):(unitF m l).2∈l∧hereB m (unitF m l).2=true:=by
 unfold unitF at h⊢
 split at h
 ·rename_i ha
  rw[if_pos ha]
  rw[List.all_eq_true] at ha
  cases hf:l.filter (openB m) with
  |nil=>rw[hf] at h;exact absurd h (by decide)
  |cons x xs=>
   rw[hf] at h
   have hx:x∈l:=by
    have:x∈l.filter (openB m):=by rw[hf];exact List.mem_cons_self
    exact(List.mem_filter.1 this).1
   simp only[oneF] at h⊢
   split at h
   ·rename_i hh
    rw[if_pos hh]
    exact⟨hx,ha x hx⟩
   ·exact absurd h (by decide)
 ·exact absurd h (by decide)
def letgo (m:List Nat) (x:Int×Int):List Nat:=m.set x.1.toNat (m.getD x.1.toNat 0-bitN x.2)
theorem letgo_len (m:List Nat) (x:Int×Int):(letgo m x).length=m.length:=by unfold letgo;simp
theorem letgo_at (m:List Nat) (x:Int×Int) (c:Nat):(letgo m x).getD c 0≤m.getD c 0:=by
 unfold letgo
 rw[getD_set_nat]
 split
 ·rename_i h
  rw[←h.1]
  omega
 ·omega
theorem letgo_small {m:List Nat} (hm:Smalls m) (x:Int×Int):Smalls (letgo m x):=by
 intro y hy
 obtain⟨j,hj,e⟩:=List.getElem_of_mem hy
 have h1:(letgo m x).getD j 0=y:=by rw[List.getD_eq_getElem?_getD,List.getElem?_eq_getElem hj,e];rfl
 rw[←h1]
 exact Nat.lt_of_le_of_lt (letgo_at m x j) (hm.at j)
theorem letgo_sum {m:List Nat} {x:Int×Int} (hx:x.1.toNat<m.length) (h:hereB m x=true):(letgo m x).sum<m.sum:=by
 refine sum_lt (letgo_len m x) (letgo_at m x) fun e=> ?_
 have h1:=congrArg (fun l=>l.getD x.1.toNat 0) e
 simp only[letgo] at h1
 rw[getD_set_nat,if_pos ⟨rfl,hx⟩] at h1
 have h2:=has_sub h
 omega
theorem pass_cons (l:List (Int×Int)) (ls:List (List (Int×Int))) (m:List Nat) (st:Int):passF (l::ls) m st=if(unitF m l).1=2 then(m,2) else if(unitF m l).1=1 then passF ls (letgo m (unitF m l).2) 1 else passF ls m st:=rfl
theorem pass_facts (n:Nat):∀(B:List (List (Int×Int))) (m:List Nat) (st:Int),(∀l∈B,∀x∈l,0≤x.1∧x.1<n)→m.length=n→Smalls m→
  (passF B m st).1.length=n∧Smalls (passF B m st).1∧(passF B m st).1.sum≤m.sum∧(st=0→(passF B m st).2=1→(passF B m st).1.sum<m.sum)
 | [],m,st,_,hl,hm=>⟨hl,hm,Nat.le_refl _,fun h0 h1=>by simp only[passF] at h1;omega⟩
 |l::ls,m,st,hB,hl,hm=>by
  rw[pass_cons]
  by_cases h2:(unitF m l).1=2
  ·rw[if_pos h2]
   exact⟨hl,hm,Nat.le_refl _,fun _ h=>absurd h (by simp)⟩
  ·rw[if_neg h2]
   have hB':=fun l' (h:l'∈ls)=>hB l' (List.mem_cons_of_mem l h)
   by_cases h1:(unitF m l).1=1
   ·rw[if_pos h1]
    obtain⟨u1,u2⟩:=unit_one h1
    have hr:=hB l List.mem_cons_self _ u1
    have hs:=letgo_sum (m:=m) (x:=(unitF m l).2) (by omega) u2
    obtain⟨a,b,c,d⟩:=pass_facts n ls (letgo m (unitF m l).2) 1 hB' (by rw[letgo_len];exact hl) (letgo_small hm _)
    exact⟨a,b,by omega,fun _ _=>by omega⟩
   ·rw[if_neg h1]
    exact pass_facts n ls m st hB' hl hm
end Go.Proofs.YtnakmganodkliaaDoorAm
set_option maxRecDepth 100000
namespace Go.Proofs.YtnakmganodkliaaDoorAm
open Go
def vq21 (g:Gr) (W:List (List Int)) (B:List (List (Int×Int))) (q:List Nat) (m:List Nat) (ws:List (List Int)) (ch:Bool) (i:Int) (l:List (Int×Int)) (k:Int) (a:Int×Int) (G:Nat→St→Prop) (R:D×List (Option Row)×List Row→Prop):Prop:=let yy0:=((Ty.int .i64).prod (Ty.int .i64));let yy1:=(stOf 105 [2,8,9,11,34,35,36] [D.sl false false yy0.sl B,D.ptr 0 0 0,D.ptr 1 0 0,D.v (Value.bool ch),D.sl false false yy0.sl B,D.v (Value.int .i64 (↑B.length:Int)),D.v (Value.int .i64 (IntKind.i64.wrap (i+(1:Int))))] [Slot.live (Row.box 73 [D.v (Value.int .i64 g.h),D.v (Value.int .i64 g.w),D.sl false false Ty.bool g.B,D.sl false false Ty.bool g.R,D.sl false false Ty.bool g.L,D.sl false false (Ty.int .i64).sl W,D.own 2 0 q.length none]),Slot.live (Row.box 151 [D.own 3 0 m.length none,D.own 4 0 ws.length none,D.v (Value.bool true)]),Slot.live (Row.data 22 (Ty.int .u64) (Mi q)),Slot.live (Row.data 22 (Ty.int .u64) (Mi m)),Slot.live (Row.nest (NK.mk 27 (Ty.int .i64).sl 0 3 (Ty.int .i64)) ws none)]);let yy2:=(stOf 105 [2,8,9,11,34,35,36] [D.sl false false yy0.sl B,D.ptr 0 0 0,D.ptr 1 0 0,D.v (Value.bool true),D.sl false false yy0.sl B,D.v (Value.int .i64 (↑B.length:Int)),D.v (Value.int .i64 (IntKind.i64.wrap (i+(1:Int))))] [Slot.live (Row.box 73 [D.v (Value.int .i64 g.h),D.v (Value.int .i64 g.w),D.sl false false Ty.bool g.B,D.sl false false Ty.bool g.R,D.sl false false Ty.bool g.L,D.sl false false (Ty.int .i64).sl W,D.own 2 0 q.length none]),Slot.live (Row.box 151 [D.own 3 0 m.length none,D.own 4 0 ws.length none,D.v (Value.bool true)]),Slot.live (Row.data 22 (Ty.int .u64) (Mi q)),Slot.live (Row.data 22 (Ty.int .u64) ((Mi m).set (0+a.fst.toNat) (IntKind.u64.wrap (↑(BitVec.ofInt 64 ((Mi m).getD (0+a.fst.toNat) (Ty.int .u64).dflt)&&& ~~~BitVec.ofInt 64 (↑(ofN (List.take 1 (List.drop 0 [a.snd]))):Int)).toNat:Int)))),Slot.live (Row.nest (NK.mk 27 (Ty.int .i64).sl 0 3 (Ty.int .i64)) ws none)]);let yy3:=(decide (IntKind.i64.wrap ((0:Int)+(1:Int))>(1:Int))=false→SameK (KK r92 1) (KK r92 1)∧G 1 (stOf 105 [2,8,9,11,14,15,34,35,36,41,42,43] [D.sl false false yy0.sl B,D.ptr 0 0 0,D.ptr 1 0 0,D.v (Value.bool ch),D.v (Value.int .i64 (IntKind.i64.wrap ((0:Int)+(1:Int)))),D.ptr 2 0 0,D.sl false false yy0.sl B,D.v (Value.int .i64 (↑B.length:Int)),D.v (Value.int .i64 i),D.sl false false yy0 l,D.v (Value.int .i64 (↑l.length:Int)),D.v (Value.int .i64 (IntKind.i64.wrap (k+(1:Int))))] [Slot.live (Row.box 73 [D.v (Value.int .i64 g.h),D.v (Value.int .i64 g.w),D.sl false false Ty.bool g.B,D.sl false false Ty.bool g.R,D.sl false false Ty.bool g.L,D.sl false false (Ty.int .i64).sl W,D.own 3 0 q.length none]),Slot.live (Row.box 151 [D.own 4 0 m.length none,D.own 5 0 ws.length none,D.v (Value.bool true)]),Slot.live (Row.box 92 [D.v (Value.int .i64 (l.getD k.toNat yy0.dflt).fst),D.v (Value.int .i64 (l.getD k.toNat yy0.dflt).snd)]),Slot.live (Row.data 22 (Ty.int .u64) (Mi q)),Slot.live (Row.data 22 (Ty.int .u64) (Mi m)),Slot.live (Row.nest (NK.mk 27 (Ty.int .i64).sl 0 3 (Ty.int .i64)) ws none)]));let yy4:=(l.getD k.toNat yy0.dflt);let yy5:=(stOf 105 [2,8,9,11,14,15,34,35,36,41,42,43] [D.sl false false yy0.sl B,D.ptr 0 0 0,D.ptr 1 0 0,D.v (Value.bool ch),D.v (Value.int .i64 (0:Int)),D.ptr 2 0 0,D.sl false false yy0.sl B,D.v (Value.int .i64 (↑B.length:Int)),D.v (Value.int .i64 i),D.sl false false yy0 l,D.v (Value.int .i64 (↑l.length:Int)),D.v (Value.int .i64 (IntKind.i64.wrap (k+(1:Int))))] [Slot.live (Row.box 73 [D.v (Value.int .i64 g.h),D.v (Value.int .i64 g.w),D.sl false false Ty.bool g.B,D.sl false false Ty.bool g.R,D.sl false false Ty.bool g.L,D.sl false false (Ty.int .i64).sl W,D.own 3 0 q.length none]),Slot.live (Row.box 151 [D.own 4 0 m.length none,D.own 5 0 ws.length none,D.v (Value.bool true)]),Slot.live (Row.box 92 [D.v (Value.int .i64 a.fst),D.v (Value.int .i64 a.snd)]),Slot.live (Row.data 22 (Ty.int .u64) (Mi q)),Slot.live (Row.data 22 (Ty.int .u64) (Mi m)),Slot.live (Row.nest (NK.mk 27 (Ty.int .i64).sl 0 3 (Ty.int .i64)) ws none)]);let yy6:=(stOf 105 [2,8,9,11,34,35,36] [D.sl false false yy0.sl B,D.ptr 0 0 0,D.ptr 1 0 0,D.v (Value.bool true),D.sl false false yy0.sl B,D.v (Value.int .i64 (↑B.length:Int)),D.v (Value.int .i64 (IntKind.i64.wrap (i+(1:Int))))] [Slot.live (Row.box 73 [D.v (Value.int .i64 g.h),D.v (Value.int .i64 g.w),D.sl false false Ty.bool g.B,D.sl false false Ty.bool g.R,D.sl false false Ty.bool g.L,D.sl false false (Ty.int .i64).sl W,D.own 2 0 q.length none]),Slot.live (Row.box 151 [D.own 3 0 m.length none,D.own 4 0 ws.length none,D.v (Value.bool true)]),Slot.live (Row.data 22 (Ty.int .u64) (Mi q)),Slot.live (Row.data 22 (Ty.int .u64) ((Mi m).set (0+Int.toNat yy4.fst) (IntKind.u64.wrap (↑(BitVec.ofInt 64 ((Mi m).getD (0+Int.toNat yy4.fst) (Ty.int .u64).dflt)&&& ~~~BitVec.ofInt 64 (↑(ofN (List.take 1 (List.drop 0 [yy4.snd]))):Int)).toNat:Int)))),Slot.live (Row.nest (NK.mk 27 (Ty.int .i64).sl 0 3 (Ty.int .i64)) ws none)]);let yy7:=((Mi m).getD (0+Int.toNat yy4.fst) (Ty.int .u64).dflt);let yy8:=(List.drop 0 [yy4.snd]);let yy9:=(List.drop 0 [a.snd]);(decide (k< (↑l.length:Int))=true→(0:Int)≤k∧k< (↑l.length:Int)∧(0:Int)≤yy4.fst∧yy4.fst< (↑m.length:Int)∧0+Int.toNat yy4.fst< (Mi m).length∧Con Tryd.prog 26 [] [D.v (Value.int .u64 yy7),D.v (Value.int .i64 yy4.snd)] (D.v (Value.bool (hasN (Int.toNat yy7) yy4.snd))) [] []∧Value.int .u64 yy7=Value.int .u64 yy7∧Value.int .i64 yy4.snd=Value.int .i64 yy4.snd∧((!hasN (Int.toNat yy7) yy4.snd)=true→(decide ((2:Int)>(1:Int))=true→(((2:Int)==(0:Int))=true→R (D.tup [D.own 0 0 m.length none,D.v (Value.bool false)],[],[Row.data 22 (Ty.int .u64) (Mi m)]))∧(((2:Int)==(0:Int))=false→(((2:Int)==(1:Int))=true→(0:Int)≤a.fst∧a.fst< (↑m.length:Int)∧0+a.fst.toNat< (Mi m).length∧Con Tryd.prog 24 [] [D.sl false false (Ty.int .i64) (List.take 1 yy9)] (D.v (Value.int .u64 (↑(ofN (List.take 1 yy9)):Int))) [] []∧List.take 1 yy9=List.take 1 yy9∧(0:Int)≤a.fst∧a.fst< (↑m.length:Int)∧0+a.fst.toNat< (Mi m).length∧SameK (KK r92 0) (KK r92 0)∧G 0 yy2)∧(((2:Int)==(1:Int))=false→SameK (KK r92 0) (KK r92 0)∧G 0 yy1)))∧(decide ((2:Int)>(1:Int))=false→SameK (KK r92 1) (KK r92 1)∧G 1 (stOf 105 [2,8,9,11,14,15,34,35,36,41,42,43] [D.sl false false yy0.sl B,D.ptr 0 0 0,D.ptr 1 0 0,D.v (Value.bool ch),D.v (Value.int .i64 (2:Int)),D.ptr 2 0 0,D.sl false false yy0.sl B,D.v (Value.int .i64 (↑B.length:Int)),D.v (Value.int .i64 i),D.sl false false yy0 l,D.v (Value.int .i64 (↑l.length:Int)),D.v (Value.int .i64 (IntKind.i64.wrap (k+(1:Int))))] [Slot.live (Row.box 73 [D.v (Value.int .i64 g.h),D.v (Value.int .i64 g.w),D.sl false false Ty.bool g.B,D.sl false false Ty.bool g.R,D.sl false false Ty.bool g.L,D.sl false false (Ty.int .i64).sl W,D.own 3 0 q.length none]),Slot.live (Row.box 151 [D.own 4 0 m.length none,D.own 5 0 ws.length none,D.v (Value.bool true)]),Slot.live (Row.box 92 [D.v (Value.int .i64 a.fst),D.v (Value.int .i64 a.snd)]),Slot.live (Row.data 22 (Ty.int .u64) (Mi q)),Slot.live (Row.data 22 (Ty.int .u64) (Mi m)),Slot.live (Row.nest (NK.mk 27 (Ty.int .i64).sl 0 3 (Ty.int .i64)) ws none)])))∧((!hasN (Int.toNat yy7) yy4.snd)=false→Con Tryd.prog 24 [] [D.sl false false (Ty.int .i64) (List.take 1 yy8)] (D.v (Value.int .u64 (↑(ofN (List.take 1 yy8)):Int))) [] []∧List.take 1 yy8=List.take 1 yy8∧(((Mi m).getD (0+Int.toNat yy4.fst) (Ty.int .u64).dflt !=(↑(ofN (List.take 1 yy8)):Int))=true→(((0:Int)==(1:Int))=true→((a.fst==yy4.fst&&(a.snd==yy4.snd&&true))=true→SameK (KK r92 1) (KK r92 1)∧G 1 yy5)∧((a.fst==yy4.fst&&(a.snd==yy4.snd&&true))=false→(decide (IntKind.i64.wrap ((0:Int)+(1:Int))>(1:Int))=true→((IntKind.i64.wrap ((0:Int)+(1:Int))==(0:Int))=true→R (D.tup [D.own 0 0 m.length none,D.v (Value.bool false)],[],[Row.data 22 (Ty.int .u64) (Mi m)]))∧((IntKind.i64.wrap ((0:Int)+(1:Int))==(0:Int))=false→((IntKind.i64.wrap ((0:Int)+(1:Int))==(1:Int))=true→(0:Int)≤yy4.fst∧yy4.fst< (↑m.length:Int)∧0+Int.toNat yy4.fst< (Mi m).length∧Con Tryd.prog 24 [] [D.sl false false (Ty.int .i64) (List.take 1 yy8)] (D.v (Value.int .u64 (↑(ofN (List.take 1 yy8)):Int))) [] []∧List.take 1 yy8=List.take 1 yy8∧(0:Int)≤yy4.fst∧yy4.fst< (↑m.length:Int)∧0+Int.toNat yy4.fst< (Mi m).length∧SameK (KK r92 0) (KK r92 0)∧G 0 yy6)∧((IntKind.i64.wrap ((0:Int)+(1:Int))==(1:Int))=false→SameK (KK r92 0) (KK r92 0)∧G 0 yy1)))∧yy3))∧(((0:Int)==(1:Int))=false→false=false∧(decide (IntKind.i64.wrap ((0:Int)+(1:Int))>(1:Int))=true→((IntKind.i64.wrap ((0:Int)+(1:Int))==(0:Int))=true→R (D.tup [D.own 0 0 m.length none,D.v (Value.bool false)],[],[Row.data 22 (Ty.int .u64) (Mi m)]))∧((IntKind.i64.wrap ((0:Int)+(1:Int))==(0:Int))=false→((IntKind.i64.wrap ((0:Int)+(1:Int))==(1:Int))=true→(0:Int)≤yy4.fst∧yy4.fst< (↑m.length:Int)∧0+Int.toNat yy4.fst< (Mi m).length∧Con Tryd.prog 24 [] [D.sl false false (Ty.int .i64) (List.take 1 yy8)] (D.v (Value.int .u64 (↑(ofN (List.take 1 yy8)):Int))) [] []∧List.take 1 yy8=List.take 1 yy8∧(0:Int)≤yy4.fst∧yy4.fst< (↑m.length:Int)∧0+Int.toNat yy4.fst< (Mi m).length∧SameK (KK r92 0) (KK r92 0)∧G 0 yy6)∧((IntKind.i64.wrap ((0:Int)+(1:Int))==(1:Int))=false→SameK (KK r92 0) (KK r92 0)∧G 0 yy1)))∧yy3))∧(((Mi m).getD (0+Int.toNat yy4.fst) (Ty.int .u64).dflt !=(↑(ofN (List.take 1 yy8)):Int))=false→(decide ((0:Int)>(1:Int))=true→(((0:Int)==(0:Int))=true→R (D.tup [D.own 0 0 m.length none,D.v (Value.bool false)],[],[Row.data 22 (Ty.int .u64) (Mi m)]))∧(((0:Int)==(0:Int))=false→(((0:Int)==(1:Int))=true→(0:Int)≤a.fst∧a.fst< (↑m.length:Int)∧0+a.fst.toNat< (Mi m).length∧Con Tryd.prog 24 [] [D.sl false false (Ty.int .i64) (List.take 1 yy9)] (D.v (Value.int .u64 (↑(ofN (List.take 1 yy9)):Int))) [] []∧List.take 1 yy9=List.take 1 yy9∧(0:Int)≤a.fst∧a.fst< (↑m.length:Int)∧0+a.fst.toNat< (Mi m).length∧SameK (KK r92 0) (KK r92 0)∧G 0 yy2)∧(((0:Int)==(1:Int))=false→SameK (KK r92 0) (KK r92 0)∧G 0 yy1)))∧(decide ((0:Int)>(1:Int))=false→SameK (KK r92 1) (KK r92 1)∧G 1 yy5))))∧(decide (k< (↑l.length:Int))=false→(((0:Int)==(0:Int))=true→R (D.tup [D.own 0 0 m.length none,D.v (Value.bool false)],[],[Row.data 22 (Ty.int .u64) (Mi m)]))∧(((0:Int)==(0:Int))=false→(((0:Int)==(1:Int))=true→(0:Int)≤a.fst∧a.fst< (↑m.length:Int)∧0+a.fst.toNat< (Mi m).length∧Con Tryd.prog 24 [] [D.sl false false (Ty.int .i64) (List.take 1 yy9)] (D.v (Value.int .u64 (↑(ofN (List.take 1 yy9)):Int))) [] []∧List.take 1 yy9=List.take 1 yy9∧(0:Int)≤a.fst∧a.fst< (↑m.length:Int)∧0+a.fst.toNat< (Mi m).length∧SameK (KK r92 0) (KK r92 0)∧G 0 yy2)∧(((0:Int)==(1:Int))=false→SameK (KK r92 0) (KK r92 0)∧G 0 yy1)))
def vq22 (g:Gr) (W:List (List Int)) (B:List (List (Int×Int))) (q:List Nat) (m:List Nat) (ws:List (List Int)) (ch:Bool) (i:Int) (l:List (Int×Int)) (k:Int) (a:Int×Int) (G:Nat→St→Prop) (R:D×List (Option Row)×List Row→Prop):Prop:=let yy0:=((Ty.int .i64).prod (Ty.int .i64));let yy1:=(stOf 105 [2,8,9,11,34,35,36] [D.sl false false yy0.sl B,D.ptr 0 0 0,D.ptr 1 0 0,D.v (Value.bool ch),D.sl false false yy0.sl B,D.v (Value.int .i64 (↑B.length:Int)),D.v (Value.int .i64 (IntKind.i64.wrap (i+(1:Int))))] [Slot.live (Row.box 73 [D.v (Value.int .i64 g.h),D.v (Value.int .i64 g.w),D.sl false false Ty.bool g.B,D.sl false false Ty.bool g.R,D.sl false false Ty.bool g.L,D.sl false false (Ty.int .i64).sl W,D.own 2 0 q.length none]),Slot.live (Row.box 151 [D.own 3 0 m.length none,D.own 4 0 ws.length none,D.v (Value.bool true)]),Slot.live (Row.data 22 (Ty.int .u64) (Mi q)),Slot.live (Row.data 22 (Ty.int .u64) (Mi m)),Slot.live (Row.nest (NK.mk 27 (Ty.int .i64).sl 0 3 (Ty.int .i64)) ws none)]);let yy2:=(stOf 105 [2,8,9,11,34,35,36] [D.sl false false yy0.sl B,D.ptr 0 0 0,D.ptr 1 0 0,D.v (Value.bool true),D.sl false false yy0.sl B,D.v (Value.int .i64 (↑B.length:Int)),D.v (Value.int .i64 (IntKind.i64.wrap (i+(1:Int))))] [Slot.live (Row.box 73 [D.v (Value.int .i64 g.h),D.v (Value.int .i64 g.w),D.sl false false Ty.bool g.B,D.sl false false Ty.bool g.R,D.sl false false Ty.bool g.L,D.sl false false (Ty.int .i64).sl W,D.own 2 0 q.length none]),Slot.live (Row.box 151 [D.own 3 0 m.length none,D.own 4 0 ws.length none,D.v (Value.bool true)]),Slot.live (Row.data 22 (Ty.int .u64) (Mi q)),Slot.live (Row.data 22 (Ty.int .u64) ((Mi m).set (0+a.fst.toNat) (IntKind.u64.wrap (↑(BitVec.ofInt 64 ((Mi m).getD (0+a.fst.toNat) (Ty.int .u64).dflt)&&& ~~~BitVec.ofInt 64 (↑(ofN (List.take 1 (List.drop 0 [a.snd]))):Int)).toNat:Int)))),Slot.live (Row.nest (NK.mk 27 (Ty.int .i64).sl 0 3 (Ty.int .i64)) ws none)]);let yy3:=(decide (IntKind.i64.wrap ((1:Int)+(1:Int))>(1:Int))=false→SameK (KK r92 1) (KK r92 1)∧G 1 (stOf 105 [2,8,9,11,14,15,34,35,36,41,42,43] [D.sl false false yy0.sl B,D.ptr 0 0 0,D.ptr 1 0 0,D.v (Value.bool ch),D.v (Value.int .i64 (IntKind.i64.wrap ((1:Int)+(1:Int)))),D.ptr 2 0 0,D.sl false false yy0.sl B,D.v (Value.int .i64 (↑B.length:Int)),D.v (Value.int .i64 i),D.sl false false yy0 l,D.v (Value.int .i64 (↑l.length:Int)),D.v (Value.int .i64 (IntKind.i64.wrap (k+(1:Int))))] [Slot.live (Row.box 73 [D.v (Value.int .i64 g.h),D.v (Value.int .i64 g.w),D.sl false false Ty.bool g.B,D.sl false false Ty.bool g.R,D.sl false false Ty.bool g.L,D.sl false false (Ty.int .i64).sl W,D.own 3 0 q.length none]),Slot.live (Row.box 151 [D.own 4 0 m.length none,D.own 5 0 ws.length none,D.v (Value.bool true)]),Slot.live (Row.box 92 [D.v (Value.int .i64 (l.getD k.toNat yy0.dflt).fst),D.v (Value.int .i64 (l.getD k.toNat yy0.dflt).snd)]),Slot.live (Row.data 22 (Ty.int .u64) (Mi q)),Slot.live (Row.data 22 (Ty.int .u64) (Mi m)),Slot.live (Row.nest (NK.mk 27 (Ty.int .i64).sl 0 3 (Ty.int .i64)) ws none)]));let yy4:=(l.getD k.toNat yy0.dflt);let yy5:=(stOf 105 [2,8,9,11,14,15,34,35,36,41,42,43] [D.sl false false yy0.sl B,D.ptr 0 0 0,D.ptr 1 0 0,D.v (Value.bool ch),D.v (Value.int .i64 (1:Int)),D.ptr 2 0 0,D.sl false false yy0.sl B,D.v (Value.int .i64 (↑B.length:Int)),D.v (Value.int .i64 i),D.sl false false yy0 l,D.v (Value.int .i64 (↑l.length:Int)),D.v (Value.int .i64 (IntKind.i64.wrap (k+(1:Int))))] [Slot.live (Row.box 73 [D.v (Value.int .i64 g.h),D.v (Value.int .i64 g.w),D.sl false false Ty.bool g.B,D.sl false false Ty.bool g.R,D.sl false false Ty.bool g.L,D.sl false false (Ty.int .i64).sl W,D.own 3 0 q.length none]),Slot.live (Row.box 151 [D.own 4 0 m.length none,D.own 5 0 ws.length none,D.v (Value.bool true)]),Slot.live (Row.box 92 [D.v (Value.int .i64 a.fst),D.v (Value.int .i64 a.snd)]),Slot.live (Row.data 22 (Ty.int .u64) (Mi q)),Slot.live (Row.data 22 (Ty.int .u64) (Mi m)),Slot.live (Row.nest (NK.mk 27 (Ty.int .i64).sl 0 3 (Ty.int .i64)) ws none)]);let yy6:=(stOf 105 [2,8,9,11,34,35,36] [D.sl false false yy0.sl B,D.ptr 0 0 0,D.ptr 1 0 0,D.v (Value.bool true),D.sl false false yy0.sl B,D.v (Value.int .i64 (↑B.length:Int)),D.v (Value.int .i64 (IntKind.i64.wrap (i+(1:Int))))] [Slot.live (Row.box 73 [D.v (Value.int .i64 g.h),D.v (Value.int .i64 g.w),D.sl false false Ty.bool g.B,D.sl false false Ty.bool g.R,D.sl false false Ty.bool g.L,D.sl false false (Ty.int .i64).sl W,D.own 2 0 q.length none]),Slot.live (Row.box 151 [D.own 3 0 m.length none,D.own 4 0 ws.length none,D.v (Value.bool true)]),Slot.live (Row.data 22 (Ty.int .u64) (Mi q)),Slot.live (Row.data 22 (Ty.int .u64) ((Mi m).set (0+Int.toNat yy4.fst) (IntKind.u64.wrap (↑(BitVec.ofInt 64 ((Mi m).getD (0+Int.toNat yy4.fst) (Ty.int .u64).dflt)&&& ~~~BitVec.ofInt 64 (↑(ofN (List.take 1 (List.drop 0 [yy4.snd]))):Int)).toNat:Int)))),Slot.live (Row.nest (NK.mk 27 (Ty.int .i64).sl 0 3 (Ty.int .i64)) ws none)]);let yy7:=((Mi m).getD (0+Int.toNat yy4.fst) (Ty.int .u64).dflt);let yy8:=(List.drop 0 [yy4.snd]);let yy9:=(List.drop 0 [a.snd]);(decide (k< (↑l.length:Int))=true→(0:Int)≤k∧k< (↑l.length:Int)∧(0:Int)≤yy4.fst∧yy4.fst< (↑m.length:Int)∧0+Int.toNat yy4.fst< (Mi m).length∧Con Tryd.prog 26 [] [D.v (Value.int .u64 yy7),D.v (Value.int .i64 yy4.snd)] (D.v (Value.bool (hasN (Int.toNat yy7) yy4.snd))) [] []∧Value.int .u64 yy7=Value.int .u64 yy7∧Value.int .i64 yy4.snd=Value.int .i64 yy4.snd∧((!hasN (Int.toNat yy7) yy4.snd)=true→(decide ((2:Int)>(1:Int))=true→(((2:Int)==(0:Int))=true→R (D.tup [D.own 0 0 m.length none,D.v (Value.bool false)],[],[Row.data 22 (Ty.int .u64) (Mi m)]))∧(((2:Int)==(0:Int))=false→(((2:Int)==(1:Int))=true→(0:Int)≤a.fst∧a.fst< (↑m.length:Int)∧0+a.fst.toNat< (Mi m).length∧Con Tryd.prog 24 [] [D.sl false false (Ty.int .i64) (List.take 1 yy9)] (D.v (Value.int .u64 (↑(ofN (List.take 1 yy9)):Int))) [] []∧List.take 1 yy9=List.take 1 yy9∧(0:Int)≤a.fst∧a.fst< (↑m.length:Int)∧0+a.fst.toNat< (Mi m).length∧SameK (KK r92 0) (KK r92 0)∧G 0 yy2)∧(((2:Int)==(1:Int))=false→SameK (KK r92 0) (KK r92 0)∧G 0 yy1)))∧(decide ((2:Int)>(1:Int))=false→SameK (KK r92 1) (KK r92 1)∧G 1 (stOf 105 [2,8,9,11,14,15,34,35,36,41,42,43] [D.sl false false yy0.sl B,D.ptr 0 0 0,D.ptr 1 0 0,D.v (Value.bool ch),D.v (Value.int .i64 (2:Int)),D.ptr 2 0 0,D.sl false false yy0.sl B,D.v (Value.int .i64 (↑B.length:Int)),D.v (Value.int .i64 i),D.sl false false yy0 l,D.v (Value.int .i64 (↑l.length:Int)),D.v (Value.int .i64 (IntKind.i64.wrap (k+(1:Int))))] [Slot.live (Row.box 73 [D.v (Value.int .i64 g.h),D.v (Value.int .i64 g.w),D.sl false false Ty.bool g.B,D.sl false false Ty.bool g.R,D.sl false false Ty.bool g.L,D.sl false false (Ty.int .i64).sl W,D.own 3 0 q.length none]),Slot.live (Row.box 151 [D.own 4 0 m.length none,D.own 5 0 ws.length none,D.v (Value.bool true)]),Slot.live (Row.box 92 [D.v (Value.int .i64 a.fst),D.v (Value.int .i64 a.snd)]),Slot.live (Row.data 22 (Ty.int .u64) (Mi q)),Slot.live (Row.data 22 (Ty.int .u64) (Mi m)),Slot.live (Row.nest (NK.mk 27 (Ty.int .i64).sl 0 3 (Ty.int .i64)) ws none)])))∧((!hasN (Int.toNat yy7) yy4.snd)=false→Con Tryd.prog 24 [] [D.sl false false (Ty.int .i64) (List.take 1 yy8)] (D.v (Value.int .u64 (↑(ofN (List.take 1 yy8)):Int))) [] []∧List.take 1 yy8=List.take 1 yy8∧(((Mi m).getD (0+Int.toNat yy4.fst) (Ty.int .u64).dflt !=(↑(ofN (List.take 1 yy8)):Int))=true→(((1:Int)==(1:Int))=true→((a.fst==yy4.fst&&(a.snd==yy4.snd&&true))=true→SameK (KK r92 1) (KK r92 1)∧G 1 yy5)∧((a.fst==yy4.fst&&(a.snd==yy4.snd&&true))=false→(decide (IntKind.i64.wrap ((1:Int)+(1:Int))>(1:Int))=true→((IntKind.i64.wrap ((1:Int)+(1:Int))==(0:Int))=true→R (D.tup [D.own 0 0 m.length none,D.v (Value.bool false)],[],[Row.data 22 (Ty.int .u64) (Mi m)]))∧((IntKind.i64.wrap ((1:Int)+(1:Int))==(0:Int))=false→((IntKind.i64.wrap ((1:Int)+(1:Int))==(1:Int))=true→(0:Int)≤yy4.fst∧yy4.fst< (↑m.length:Int)∧0+Int.toNat yy4.fst< (Mi m).length∧Con Tryd.prog 24 [] [D.sl false false (Ty.int .i64) (List.take 1 yy8)] (D.v (Value.int .u64 (↑(ofN (List.take 1 yy8)):Int))) [] []∧List.take 1 yy8=List.take 1 yy8∧(0:Int)≤yy4.fst∧yy4.fst< (↑m.length:Int)∧0+Int.toNat yy4.fst< (Mi m).length∧SameK (KK r92 0) (KK r92 0)∧G 0 yy6)∧((IntKind.i64.wrap ((1:Int)+(1:Int))==(1:Int))=false→SameK (KK r92 0) (KK r92 0)∧G 0 yy1)))∧yy3))∧(((1:Int)==(1:Int))=false→false=false∧(decide (IntKind.i64.wrap ((1:Int)+(1:Int))>(1:Int))=true→((IntKind.i64.wrap ((1:Int)+(1:Int))==(0:Int))=true→R (D.tup [D.own 0 0 m.length none,D.v (Value.bool false)],[],[Row.data 22 (Ty.int .u64) (Mi m)]))∧((IntKind.i64.wrap ((1:Int)+(1:Int))==(0:Int))=false→((IntKind.i64.wrap ((1:Int)+(1:Int))==(1:Int))=true→(0:Int)≤yy4.fst∧yy4.fst< (↑m.length:Int)∧0+Int.toNat yy4.fst< (Mi m).length∧Con Tryd.prog 24 [] [D.sl false false (Ty.int .i64) (List.take 1 yy8)] (D.v (Value.int .u64 (↑(ofN (List.take 1 yy8)):Int))) [] []∧List.take 1 yy8=List.take 1 yy8∧(0:Int)≤yy4.fst∧yy4.fst< (↑m.length:Int)∧0+Int.toNat yy4.fst< (Mi m).length∧SameK (KK r92 0) (KK r92 0)∧G 0 yy6)∧((IntKind.i64.wrap ((1:Int)+(1:Int))==(1:Int))=false→SameK (KK r92 0) (KK r92 0)∧G 0 yy1)))∧yy3))∧(((Mi m).getD (0+Int.toNat yy4.fst) (Ty.int .u64).dflt !=(↑(ofN (List.take 1 yy8)):Int))=false→(decide ((1:Int)>(1:Int))=true→(((1:Int)==(0:Int))=true→R (D.tup [D.own 0 0 m.length none,D.v (Value.bool false)],[],[Row.data 22 (Ty.int .u64) (Mi m)]))∧(((1:Int)==(0:Int))=false→(((1:Int)==(1:Int))=true→(0:Int)≤a.fst∧a.fst< (↑m.length:Int)∧0+a.fst.toNat< (Mi m).length∧Con Tryd.prog 24 [] [D.sl false false (Ty.int .i64) (List.take 1 yy9)] (D.v (Value.int .u64 (↑(ofN (List.take 1 yy9)):Int))) [] []∧List.take 1 yy9=List.take 1 yy9∧(0:Int)≤a.fst∧a.fst< (↑m.length:Int)∧0+a.fst.toNat< (Mi m).length∧SameK (KK r92 0) (KK r92 0)∧G 0 yy2)∧(((1:Int)==(1:Int))=false→SameK (KK r92 0) (KK r92 0)∧G 0 yy1)))∧(decide ((1:Int)>(1:Int))=false→SameK (KK r92 1) (KK r92 1)∧G 1 yy5))))∧(decide (k< (↑l.length:Int))=false→(((1:Int)==(0:Int))=true→R (D.tup [D.own 0 0 m.length none,D.v (Value.bool false)],[],[Row.data 22 (Ty.int .u64) (Mi m)]))∧(((1:Int)==(0:Int))=false→(((1:Int)==(1:Int))=true→(0:Int)≤a.fst∧a.fst< (↑m.length:Int)∧0+a.fst.toNat< (Mi m).length∧Con Tryd.prog 24 [] [D.sl false false (Ty.int .i64) (List.take 1 yy9)] (D.v (Value.int .u64 (↑(ofN (List.take 1 yy9)):Int))) [] []∧List.take 1 yy9=List.take 1 yy9∧(0:Int)≤a.fst∧a.fst< (↑m.length:Int)∧0+a.fst.toNat< (Mi m).length∧SameK (KK r92 0) (KK r92 0)∧G 0 yy2)∧(((1:Int)==(1:Int))=false→SameK (KK r92 0) (KK r92 0)∧G 0 yy1)))
def vq23 (g:Gr) (W:List (List Int)) (B:List (List (Int×Int))) (q:List Nat) (m:List Nat) (ws:List (List Int)) (ch:Bool) (i:Int) (l:List (Int×Int)) (k:Int) (op:Int) (a:Int×Int) (G:Nat→St→Prop) (R:D×List (Option Row)×List Row→Prop):Prop:=let yy0:=((Ty.int .i64).prod (Ty.int .i64));let yy1:=(stOf 105 [2,8,9,11,34,35,36] [D.sl false false yy0.sl B,D.ptr 0 0 0,D.ptr 1 0 0,D.v (Value.bool ch),D.sl false false yy0.sl B,D.v (Value.int .i64 (↑B.length:Int)),D.v (Value.int .i64 (IntKind.i64.wrap (i+(1:Int))))] [Slot.live (Row.box 73 [D.v (Value.int .i64 g.h),D.v (Value.int .i64 g.w),D.sl false false Ty.bool g.B,D.sl false false Ty.bool g.R,D.sl false false Ty.bool g.L,D.sl false false (Ty.int .i64).sl W,D.own 2 0 q.length none]),Slot.live (Row.box 151 [D.own 3 0 m.length none,D.own 4 0 ws.length none,D.v (Value.bool true)]),Slot.live (Row.data 22 (Ty.int .u64) (Mi q)),Slot.live (Row.data 22 (Ty.int .u64) (Mi m)),Slot.live (Row.nest (NK.mk 27 (Ty.int .i64).sl 0 3 (Ty.int .i64)) ws none)]);let yy2:=(stOf 105 [2,8,9,11,34,35,36] [D.sl false false yy0.sl B,D.ptr 0 0 0,D.ptr 1 0 0,D.v (Value.bool true),D.sl false false yy0.sl B,D.v (Value.int .i64 (↑B.length:Int)),D.v (Value.int .i64 (IntKind.i64.wrap (i+(1:Int))))] [Slot.live (Row.box 73 [D.v (Value.int .i64 g.h),D.v (Value.int .i64 g.w),D.sl false false Ty.bool g.B,D.sl false false Ty.bool g.R,D.sl false false Ty.bool g.L,D.sl false false (Ty.int .i64).sl W,D.own 2 0 q.length none]),Slot.live (Row.box 151 [D.own 3 0 m.length none,D.own 4 0 ws.length none,D.v (Value.bool true)]),Slot.live (Row.data 22 (Ty.int .u64) (Mi q)),Slot.live (Row.data 22 (Ty.int .u64) ((Mi m).set (0+a.fst.toNat) (IntKind.u64.wrap (↑(BitVec.ofInt 64 ((Mi m).getD (0+a.fst.toNat) (Ty.int .u64).dflt)&&& ~~~BitVec.ofInt 64 (↑(ofN (List.take 1 (List.drop 0 [a.snd]))):Int)).toNat:Int)))),Slot.live (Row.nest (NK.mk 27 (Ty.int .i64).sl 0 3 (Ty.int .i64)) ws none)]);let yy3:=(decide (IntKind.i64.wrap (op+(1:Int))>(1:Int))=false→SameK (KK r92 1) (KK r92 1)∧G 1 (stOf 105 [2,8,9,11,14,15,34,35,36,41,42,43] [D.sl false false yy0.sl B,D.ptr 0 0 0,D.ptr 1 0 0,D.v (Value.bool ch),D.v (Value.int .i64 (IntKind.i64.wrap (op+(1:Int)))),D.ptr 2 0 0,D.sl false false yy0.sl B,D.v (Value.int .i64 (↑B.length:Int)),D.v (Value.int .i64 i),D.sl false false yy0 l,D.v (Value.int .i64 (↑l.length:Int)),D.v (Value.int .i64 (IntKind.i64.wrap (k+(1:Int))))] [Slot.live (Row.box 73 [D.v (Value.int .i64 g.h),D.v (Value.int .i64 g.w),D.sl false false Ty.bool g.B,D.sl false false Ty.bool g.R,D.sl false false Ty.bool g.L,D.sl false false (Ty.int .i64).sl W,D.own 3 0 q.length none]),Slot.live (Row.box 151 [D.own 4 0 m.length none,D.own 5 0 ws.length none,D.v (Value.bool true)]),Slot.live (Row.box 92 [D.v (Value.int .i64 (l.getD k.toNat yy0.dflt).fst),D.v (Value.int .i64 (l.getD k.toNat yy0.dflt).snd)]),Slot.live (Row.data 22 (Ty.int .u64) (Mi q)),Slot.live (Row.data 22 (Ty.int .u64) (Mi m)),Slot.live (Row.nest (NK.mk 27 (Ty.int .i64).sl 0 3 (Ty.int .i64)) ws none)]));let yy4:=(l.getD k.toNat yy0.dflt);let yy5:=(stOf 105 [2,8,9,11,14,15,34,35,36,41,42,43] [D.sl false false yy0.sl B,D.ptr 0 0 0,D.ptr 1 0 0,D.v (Value.bool ch),D.v (Value.int .i64 op),D.ptr 2 0 0,D.sl false false yy0.sl B,D.v (Value.int .i64 (↑B.length:Int)),D.v (Value.int .i64 i),D.sl false false yy0 l,D.v (Value.int .i64 (↑l.length:Int)),D.v (Value.int .i64 (IntKind.i64.wrap (k+(1:Int))))] [Slot.live (Row.box 73 [D.v (Value.int .i64 g.h),D.v (Value.int .i64 g.w),D.sl false false Ty.bool g.B,D.sl false false Ty.bool g.R,D.sl false false Ty.bool g.L,D.sl false false (Ty.int .i64).sl W,D.own 3 0 q.length none]),Slot.live (Row.box 151 [D.own 4 0 m.length none,D.own 5 0 ws.length none,D.v (Value.bool true)]),Slot.live (Row.box 92 [D.v (Value.int .i64 a.fst),D.v (Value.int .i64 a.snd)]),Slot.live (Row.data 22 (Ty.int .u64) (Mi q)),Slot.live (Row.data 22 (Ty.int .u64) (Mi m)),Slot.live (Row.nest (NK.mk 27 (Ty.int .i64).sl 0 3 (Ty.int .i64)) ws none)]);let yy6:=(stOf 105 [2,8,9,11,34,35,36] [D.sl false false yy0.sl B,D.ptr 0 0 0,D.ptr 1 0 0,D.v (Value.bool true),D.sl false false yy0.sl B,D.v (Value.int .i64 (↑B.length:Int)),D.v (Value.int .i64 (IntKind.i64.wrap (i+(1:Int))))] [Slot.live (Row.box 73 [D.v (Value.int .i64 g.h),D.v (Value.int .i64 g.w),D.sl false false Ty.bool g.B,D.sl false false Ty.bool g.R,D.sl false false Ty.bool g.L,D.sl false false (Ty.int .i64).sl W,D.own 2 0 q.length none]),Slot.live (Row.box 151 [D.own 3 0 m.length none,D.own 4 0 ws.length none,D.v (Value.bool true)]),Slot.live (Row.data 22 (Ty.int .u64) (Mi q)),Slot.live (Row.data 22 (Ty.int .u64) ((Mi m).set (0+Int.toNat yy4.fst) (IntKind.u64.wrap (↑(BitVec.ofInt 64 ((Mi m).getD (0+Int.toNat yy4.fst) (Ty.int .u64).dflt)&&& ~~~BitVec.ofInt 64 (↑(ofN (List.take 1 (List.drop 0 [yy4.snd]))):Int)).toNat:Int)))),Slot.live (Row.nest (NK.mk 27 (Ty.int .i64).sl 0 3 (Ty.int .i64)) ws none)]);let yy7:=((Mi m).getD (0+Int.toNat yy4.fst) (Ty.int .u64).dflt);let yy8:=(List.drop 0 [yy4.snd]);let yy9:=(List.drop 0 [a.snd]);(decide (k< (↑l.length:Int))=true→(0:Int)≤k∧k< (↑l.length:Int)∧(0:Int)≤yy4.fst∧yy4.fst< (↑m.length:Int)∧0+Int.toNat yy4.fst< (Mi m).length∧Con Tryd.prog 26 [] [D.v (Value.int .u64 yy7),D.v (Value.int .i64 yy4.snd)] (D.v (Value.bool (hasN (Int.toNat yy7) yy4.snd))) [] []∧Value.int .u64 yy7=Value.int .u64 yy7∧Value.int .i64 yy4.snd=Value.int .i64 yy4.snd∧((!hasN (Int.toNat yy7) yy4.snd)=true→(decide ((2:Int)>(1:Int))=true→(((2:Int)==(0:Int))=true→R (D.tup [D.own 0 0 m.length none,D.v (Value.bool false)],[],[Row.data 22 (Ty.int .u64) (Mi m)]))∧(((2:Int)==(0:Int))=false→(((2:Int)==(1:Int))=true→(0:Int)≤a.fst∧a.fst< (↑m.length:Int)∧0+a.fst.toNat< (Mi m).length∧Con Tryd.prog 24 [] [D.sl false false (Ty.int .i64) (List.take 1 yy9)] (D.v (Value.int .u64 (↑(ofN (List.take 1 yy9)):Int))) [] []∧List.take 1 yy9=List.take 1 yy9∧(0:Int)≤a.fst∧a.fst< (↑m.length:Int)∧0+a.fst.toNat< (Mi m).length∧SameK (KK r92 0) (KK r92 0)∧G 0 yy2)∧(((2:Int)==(1:Int))=false→SameK (KK r92 0) (KK r92 0)∧G 0 yy1)))∧(decide ((2:Int)>(1:Int))=false→SameK (KK r92 1) (KK r92 1)∧G 1 (stOf 105 [2,8,9,11,14,15,34,35,36,41,42,43] [D.sl false false yy0.sl B,D.ptr 0 0 0,D.ptr 1 0 0,D.v (Value.bool ch),D.v (Value.int .i64 (2:Int)),D.ptr 2 0 0,D.sl false false yy0.sl B,D.v (Value.int .i64 (↑B.length:Int)),D.v (Value.int .i64 i),D.sl false false yy0 l,D.v (Value.int .i64 (↑l.length:Int)),D.v (Value.int .i64 (IntKind.i64.wrap (k+(1:Int))))] [Slot.live (Row.box 73 [D.v (Value.int .i64 g.h),D.v (Value.int .i64 g.w),D.sl false false Ty.bool g.B,D.sl false false Ty.bool g.R,D.sl false false Ty.bool g.L,D.sl false false (Ty.int .i64).sl W,D.own 3 0 q.length none]),Slot.live (Row.box 151 [D.own 4 0 m.length none,D.own 5 0 ws.length none,D.v (Value.bool true)]),Slot.live (Row.box 92 [D.v (Value.int .i64 a.fst),D.v (Value.int .i64 a.snd)]),Slot.live (Row.data 22 (Ty.int .u64) (Mi q)),Slot.live (Row.data 22 (Ty.int .u64) (Mi m)),Slot.live (Row.nest (NK.mk 27 (Ty.int .i64).sl 0 3 (Ty.int .i64)) ws none)])))∧((!hasN (Int.toNat yy7) yy4.snd)=false→Con Tryd.prog 24 [] [D.sl false false (Ty.int .i64) (List.take 1 yy8)] (D.v (Value.int .u64 (↑(ofN (List.take 1 yy8)):Int))) [] []∧List.take 1 yy8=List.take 1 yy8∧(((Mi m).getD (0+Int.toNat yy4.fst) (Ty.int .u64).dflt !=(↑(ofN (List.take 1 yy8)):Int))=true→((op==(1:Int))=true→((a.fst==yy4.fst&&(a.snd==yy4.snd&&true))=true→SameK (KK r92 1) (KK r92 1)∧G 1 yy5)∧((a.fst==yy4.fst&&(a.snd==yy4.snd&&true))=false→(decide (IntKind.i64.wrap (op+(1:Int))>(1:Int))=true→((IntKind.i64.wrap (op+(1:Int))==(0:Int))=true→R (D.tup [D.own 0 0 m.length none,D.v (Value.bool false)],[],[Row.data 22 (Ty.int .u64) (Mi m)]))∧((IntKind.i64.wrap (op+(1:Int))==(0:Int))=false→((IntKind.i64.wrap (op+(1:Int))==(1:Int))=true→(0:Int)≤yy4.fst∧yy4.fst< (↑m.length:Int)∧0+Int.toNat yy4.fst< (Mi m).length∧Con Tryd.prog 24 [] [D.sl false false (Ty.int .i64) (List.take 1 yy8)] (D.v (Value.int .u64 (↑(ofN (List.take 1 yy8)):Int))) [] []∧List.take 1 yy8=List.take 1 yy8∧(0:Int)≤yy4.fst∧yy4.fst< (↑m.length:Int)∧0+Int.toNat yy4.fst< (Mi m).length∧SameK (KK r92 0) (KK r92 0)∧G 0 yy6)∧((IntKind.i64.wrap (op+(1:Int))==(1:Int))=false→SameK (KK r92 0) (KK r92 0)∧G 0 yy1)))∧yy3))∧((op==(1:Int))=false→false=false∧(decide (IntKind.i64.wrap (op+(1:Int))>(1:Int))=true→((IntKind.i64.wrap (op+(1:Int))==(0:Int))=true→R (D.tup [D.own 0 0 m.length none,D.v (Value.bool false)],[],[Row.data 22 (Ty.int .u64) (Mi m)]))∧((IntKind.i64.wrap (op+(1:Int))==(0:Int))=false→((IntKind.i64.wrap (op+(1:Int))==(1:Int))=true→(0:Int)≤yy4.fst∧yy4.fst< (↑m.length:Int)∧0+Int.toNat yy4.fst< (Mi m).length∧Con Tryd.prog 24 [] [D.sl false false (Ty.int .i64) (List.take 1 yy8)] (D.v (Value.int .u64 (↑(ofN (List.take 1 yy8)):Int))) [] []∧List.take 1 yy8=List.take 1 yy8∧(0:Int)≤yy4.fst∧yy4.fst< (↑m.length:Int)∧0+Int.toNat yy4.fst< (Mi m).length∧SameK (KK r92 0) (KK r92 0)∧G 0 yy6)∧((IntKind.i64.wrap (op+(1:Int))==(1:Int))=false→SameK (KK r92 0) (KK r92 0)∧G 0 yy1)))∧yy3))∧(((Mi m).getD (0+Int.toNat yy4.fst) (Ty.int .u64).dflt !=(↑(ofN (List.take 1 yy8)):Int))=false→(decide (op>(1:Int))=true→((op==(0:Int))=true→R (D.tup [D.own 0 0 m.length none,D.v (Value.bool false)],[],[Row.data 22 (Ty.int .u64) (Mi m)]))∧((op==(0:Int))=false→((op==(1:Int))=true→(0:Int)≤a.fst∧a.fst< (↑m.length:Int)∧0+a.fst.toNat< (Mi m).length∧Con Tryd.prog 24 [] [D.sl false false (Ty.int .i64) (List.take 1 yy9)] (D.v (Value.int .u64 (↑(ofN (List.take 1 yy9)):Int))) [] []∧List.take 1 yy9=List.take 1 yy9∧(0:Int)≤a.fst∧a.fst< (↑m.length:Int)∧0+a.fst.toNat< (Mi m).length∧SameK (KK r92 0) (KK r92 0)∧G 0 yy2)∧((op==(1:Int))=false→SameK (KK r92 0) (KK r92 0)∧G 0 yy1)))∧(decide (op>(1:Int))=false→SameK (KK r92 1) (KK r92 1)∧G 1 yy5))))∧(decide (k< (↑l.length:Int))=false→((op==(0:Int))=true→R (D.tup [D.own 0 0 m.length none,D.v (Value.bool false)],[],[Row.data 22 (Ty.int .u64) (Mi m)]))∧((op==(0:Int))=false→((op==(1:Int))=true→(0:Int)≤a.fst∧a.fst< (↑m.length:Int)∧0+a.fst.toNat< (Mi m).length∧Con Tryd.prog 24 [] [D.sl false false (Ty.int .i64) (List.take 1 yy9)] (D.v (Value.int .u64 (↑(ofN (List.take 1 yy9)):Int))) [] []∧List.take 1 yy9=List.take 1 yy9∧(0:Int)≤a.fst∧a.fst< (↑m.length:Int)∧0+a.fst.toNat< (Mi m).length∧SameK (KK r92 0) (KK r92 0)∧G 0 yy2)∧((op==(1:Int))=false→SameK (KK r92 0) (KK r92 0)∧G 0 yy1)))
theorem e92c (g:Gr) (W:List (List Int)) (B:List (List (Int×Int))) (q m:List Nat) (ws:List (List Int)) (ch:Bool) (i:Int) (r:List Nat×Bool) (l:List (Int×Int)) (hm:Smalls m) (hll:l.length≤8796093022208) (hl:∀x∈l,0≤x.1∧x.1<m.length) (hii:IntKind.i64.wrap (i+1)=i+1) (u:Int×(Int×Int))
  (h2:u.1=2→r=(m,false)) (h1:u.1=1→GetsK Tryd.prog Tryd.f92.results.toList [none,none] (KK r92) 0 (.tup [.own 0 0 r.1.length none,.v (.bool r.2)],[],[.data 22 (.int .u64) (Mi r.1)]) 0 (stOf 105 [2,8,9,11,34,35,36] [slBd B,.ptr 0 0 0,.ptr 1 0 0,.v (.bool true),slBd B,.v (.int .i64 B.length),.v (.int .i64 (i+1))] [.live (.box 73 [.v (.int .i64 g.h),.v (.int .i64 g.w),.sl false false .bool g.B,.sl false false .bool g.R,.sl false false .bool g.L,slW W,.own 2 0 q.length none]),.live (.box 151 [.own 3 0 (letgo m u.2).length none,.own 4 0 ws.length none,.v (.bool true)]),.live (.data 22 (.int .u64) (Mi q)),.live (.data 22 (.int .u64) (Mi (letgo m u.2))),.live (.nest kW ws none)])) (h0:u.1=0→GetsK Tryd.prog Tryd.f92.results.toList [none,none] (KK r92) 0 (.tup [.own 0 0 r.1.length none,.v (.bool r.2)],[],[.data 22 (.int .u64) (Mi r.1)]) 0 (stOf 105 [2,8,9,11,34,35,36] [slBd B,.ptr 0 0 0,.ptr 1 0 0,.v (.bool ch),slBd B,.v (.int .i64 B.length),.v (.int .i64 (i+1))] [.live (.box 73 [.v (.int .i64 g.h),.v (.int .i64 g.w),.sl false false .bool g.B,.sl false false .bool g.R,.sl false false .bool g.L,slW W,.own 2 0 q.length none]),.live (.box 151 [.own 3 0 m.length none,.own 4 0 ws.length none,.v (.bool true)]),.live (.data 22 (.int .u64) (Mi q)),.live (.data 22 (.int .u64) (Mi m)),.live (.nest kW ws none)])) (z:Nat):∀(k op:Int) (a:Int×Int),0≤k→k+z=l.length→(op=0∨op=1∧a∈l∧hereB m a=true)→restU m op a (l.drop k.toNat)=u→GetsK Tryd.prog Tryd.f92.results.toList [none,none] (KK r92) 0 (.tup [.own 0 0 r.1.length none,.v (.bool r.2)],[],[.data 22 (.int .u64) (Mi r.1)]) 1 (stOf 105 [2,8,9,11,14,15,34,35,36,41,42,43] [slBd B,.ptr 0 0 0,.ptr 1 0 0,.v (.bool ch),.v (.int .i64 op),.ptr 2 0 0,slBd B,.v (.int .i64 B.length),.v (.int .i64 i),slQ l,.v (.int .i64 l.length),.v (.int .i64 k)] [.live (.box 73 [.v (.int .i64 g.h),.v (.int .i64 g.w),.sl false false .bool g.B,.sl false false .bool g.R,.sl false false .bool g.L,slW W,.own 3 0 q.length none]),.live (.box 151 [.own 4 0 m.length none,.own 5 0 ws.length none,.v (.bool true)]),.live (.box 92 [.v (.int .i64 a.1),.v (.int .i64 a.2)]),.live (.data 22 (.int .u64) (Mi q)),.live (.data 22 (.int .u64) (Mi m)),.live (.nest kW ws none)]):=by
 induction z with
 |zero=>
  intro k op a k0 hk hop hu
  rw[List.drop_eq_nil_of_le (by omega)] at hu
  rcases hop with hop|⟨hop,ha,hh⟩
  ·subst hop
   rw[restU_nil0] at hu
   have hr:=h2 (by rw[←hu])
   subst hr
   refine gets_vc spR (fun k=> [[2,8,9,11,34,35,36],[2,8,9,11,14,15,34,35,36,41,42,43]].getD k []) (fun _=> []) 400 (.fork (.fork (.fork (.fork .stop (.fork (.hd 0) (.hd 0))) (.hd 1)) (.fork (.fork (.fork (.hd 1) (.fork (.fork .stop (.fork (.hd 0) (.hd 0))) (.hd 1))) (.f (.fork (.fork .stop (.fork (.hd 0) (.hd 0))) (.hd 1)))) (.fork (.fork .stop (.fork (.hd 0) (.hd 0))) (.hd 1)))) (.fork .stop (.fork (.hd 0) (.hd 0)))) (V:=vq21 g W B q m ws ch i l k a) hmG (fun G R=>by kernel_rfl) ?_
   unfold vq21
   try dsimp only
   simp only[show((0:Int)==0)=true from rfl,show((0:Int)==1)=false from rfl]
   simp (disch:=omega) only[oo,oop,ne_eq,Ty.dflt,reduceCtorEq]
   repeat' (first|with_reducible refine And.intro ?_ ?_|intro _)
   all_goals first|rfl|omega|assumption|trivial|(exfalso;simp_all;done)|(exfalso;omega)|skip
  ·subst hop
   rw[restU_nil1] at hu
   have hg:=h1 (by rw[←hu])
   rw[←hu] at hg
   have hr:=hl a ha
   obtain⟨b1,b2,b3,b4⟩:=has_sub hh
   have c1:=d67 [a.2] (by simp)
   rw[ofN_one] at c1
   have e1:=andn_sub (hm.at a.1.toNat) b4 b1
   unfold letgo at hg
   rw[List.length_set] at hg
   refine gets_vc spR (fun k=> [[2,8,9,11,34,35,36],[2,8,9,11,14,15,34,35,36,41,42,43]].getD k []) (fun _=> []) 400 (.fork (.fork (.fork (.fork .stop (.fork (.hd 0) (.hd 0))) (.hd 1)) (.fork (.fork (.fork (.hd 1) (.fork (.fork .stop (.fork (.hd 0) (.hd 0))) (.hd 1))) (.f (.fork (.fork .stop (.fork (.hd 0) (.hd 0))) (.hd 1)))) (.fork (.fork .stop (.fork (.hd 0) (.hd 0))) (.hd 1)))) (.fork .stop (.fork (.hd 0) (.hd 0)))) (V:=vq22 g W B q m ws ch i l k a) hmG (fun G R=>by kernel_rfl) ?_
   unfold vq22
   try dsimp only
   simp only[show((1:Int)==0)=false from rfl,show((1:Int)==1)=true from rfl,Ty.dflt,hii,take_len,List.drop_zero,List.take_length,Mi_getD,Mi_len,Nt_Mi,Int.toNat_natCast,Mi_set,Nat.zero_add,Nat.sub_zero,List.length_set,take_one,takeSn,List.take_zero,List.nil_append,List.length_append,List.length_cons,List.length_nil,Mi_take,ofN_one,e1]
   simp (disch:=omega) only[oo,oop,ne_eq,Ty.dflt,reduceCtorEq]
   repeat' (first|with_reducible refine And.intro ?_ ?_|intro _)
   all_goals first|rfl|omega|assumption|trivial|(exfalso;simp_all;done)|(exfalso;omega)|skip
 |succ z ih=>
  intro k op a k0 hk hop hu
  have hk1:IntKind.i64.wrap (k+1)=k+1:=wrG (by omega) (by omega)
  have hxm:=getD_in (d:=((0:Int),(0:Int))) (k:=k.toNat) (l:=l) (by omega)
  have hx:=hl _ hxm
  rw[drop_at (xs:=l) (i:=k) (0,0) k0 (by omega)] at hu
  obtain⟨x,hxx⟩:∃x,l.getD k.toNat (0,0)=x:=⟨_,rfl⟩
  rw[hxx] at hx hu hxm
  have c1:=d66 (m.getD x.1.toNat 0) x.2 (hm.at _)
  have c2:=d67 [x.2] (by simp)
  rw[ofN_one] at c2
  have w2:((2:Int)==0)=false:=rfl
  have w3:((2:Int)==1)=false:=rfl
  have w4:decide ((2:Int)>1)=true:=rfl
  have w5:decide ((1:Int)>1)=false:=rfl
  have w6:decide ((0:Int)>1)=false:=rfl
  have w7:IntKind.i64.wrap ((0:Int)+1)=1:=by decide
  have w8:IntKind.i64.wrap ((1:Int)+1)=2:=by decide
  have w9:((0:Int)==1)=false:=rfl
  have w10:((1:Int)==1)=true:=rfl
  cases hh:hereB m x with
  |false=>
   rw[restU_no hh] at hu
   have hg:=h0 (by rw[←hu])
   have hh':hasN (m.getD x.1.toNat 0) x.2=false:=hh
   rw[hh'] at c1
   refine gets_vc spR (fun k=> [[2,8,9,11,34,35,36],[2,8,9,11,14,15,34,35,36,41,42,43]].getD k []) (fun _=> []) 400 (.fork (.fork (.fork (.fork .stop (.fork (.hd 0) (.hd 0))) (.hd 1)) (.fork (.fork (.fork (.hd 1) (.fork (.fork .stop (.fork (.hd 0) (.hd 0))) (.hd 1))) (.f (.fork (.fork .stop (.fork (.hd 0) (.hd 0))) (.hd 1)))) (.fork (.fork .stop (.fork (.hd 0) (.hd 0))) (.hd 1)))) (.fork .stop (.fork (.hd 0) (.hd 0)))) (V:=vq23 g W B q m ws ch i l k op a) hmG (fun G R=>by kernel_rfl) ?_
   unfold vq23
   try dsimp only
   simp only[Ty.dflt,hk1,hii,hxx,take_len,List.drop_zero,List.take_length,Mi_getD,Mi_len,Nt_Mi,Int.toNat_natCast,Mi_set,Nat.zero_add,Nat.sub_zero,List.length_set,take_one,takeSn,List.take_zero,List.nil_append,List.length_append,List.length_cons,List.length_nil,Mi_take,hh',w2,w3,w4,Bool.not_false]
   simp (disch:=omega) only[oo,oop,ne_eq,Ty.dflt,reduceCtorEq]
   repeat' (first|with_reducible refine And.intro ?_ ?_|intro _)
   all_goals first|rfl|omega|assumption|trivial|(exfalso;simp_all;done)|(exfalso;omega)|skip
  |true=>
   have hh':hasN (m.getD x.1.toNat 0) x.2=true:=hh
   rw[hh'] at c1
   cases ho:openB m x with
   |false=>
    rw[restU_shut hh ho] at hu
    have hg:=ih (k+1) op a (by omega) (by omega) hop hu
    have e1:(((m.getD x.1.toNat 0:Nat):Int) !=((bitN x.2:Nat):Int))=false:=by
     simp only[openB,bne_eq_false_iff_eq] at ho
     rw[ho]
     simp
    have w11:decide (op>1)=false:=by rcases hop with h|h<;>(rw[decide_eq_false_iff_not];omega)
    refine gets_vc spR (fun k=> [[2,8,9,11,34,35,36],[2,8,9,11,14,15,34,35,36,41,42,43]].getD k []) (fun _=> []) 400 (.fork (.fork (.fork (.fork .stop (.fork (.hd 0) (.hd 0))) (.hd 1)) (.fork (.fork (.fork (.hd 1) (.fork (.fork .stop (.fork (.hd 0) (.hd 0))) (.hd 1))) (.f (.fork (.fork .stop (.fork (.hd 0) (.hd 0))) (.hd 1)))) (.fork (.fork .stop (.fork (.hd 0) (.hd 0))) (.hd 1)))) (.fork .stop (.fork (.hd 0) (.hd 0)))) (V:=vq23 g W B q m ws ch i l k op a) hmG (fun G R=>by kernel_rfl) ?_
    unfold vq23
    try dsimp only
    simp only[Ty.dflt,hk1,hii,hxx,take_len,List.drop_zero,List.take_length,Mi_getD,Mi_len,Nt_Mi,Int.toNat_natCast,Mi_set,Nat.zero_add,Nat.sub_zero,List.length_set,take_one,takeSn,List.take_zero,List.nil_append,List.length_append,List.length_cons,List.length_nil,Mi_take,hh',ofN_one,e1,w11,Bool.not_true]
    simp (disch:=omega) only[oo,oop,ne_eq,Ty.dflt,reduceCtorEq]
    repeat' (first|with_reducible refine And.intro ?_ ?_|intro _)
    all_goals first|rfl|omega|assumption|trivial|(exfalso;simp_all;done)|(exfalso;omega)|skip
   |true=>
    have e1:(((m.getD x.1.toNat 0:Nat):Int) !=((bitN x.2:Nat):Int))=true:=by
     simp only[openB,bne_iff_ne,ne_eq] at ho
     rw[bne_iff_ne]
     omega
    rcases hop with hop|⟨hop,ha,hah⟩
    ·subst hop
     rw[restU_first hh ho] at hu
     have hg:=ih (k+1) 1 x (by omega) (by omega) (Or.inr ⟨rfl,hxm,hh⟩) hu
     refine gets_vc spR (fun k=> [[2,8,9,11,34,35,36],[2,8,9,11,14,15,34,35,36,41,42,43]].getD k []) (fun _=> []) 400 (.fork (.fork (.fork (.fork .stop (.fork (.hd 0) (.hd 0))) (.hd 1)) (.fork (.fork (.fork (.hd 1) (.fork (.fork .stop (.fork (.hd 0) (.hd 0))) (.hd 1))) (.f (.fork (.fork .stop (.fork (.hd 0) (.hd 0))) (.hd 1)))) (.fork (.fork .stop (.fork (.hd 0) (.hd 0))) (.hd 1)))) (.fork .stop (.fork (.hd 0) (.hd 0)))) (V:=vq21 g W B q m ws ch i l k a) hmG (fun G R=>by kernel_rfl) ?_
     unfold vq21
     try dsimp only
     simp only[Ty.dflt,hk1,hii,hxx,take_len,List.drop_zero,List.take_length,Mi_getD,Mi_len,Nt_Mi,Int.toNat_natCast,Mi_set,Nat.zero_add,Nat.sub_zero,List.length_set,take_one,takeSn,List.take_zero,List.nil_append,List.length_append,List.length_cons,List.length_nil,Mi_take,hh',ofN_one,e1,w5,w7,w9,Bool.not_true]
     simp (disch:=omega) only[oo,oop,ne_eq,Ty.dflt,reduceCtorEq]
     repeat' (first|with_reducible refine And.intro ?_ ?_|intro _)
     all_goals first|rfl|omega|assumption|trivial|(exfalso;simp_all;done)|(exfalso;omega)|skip
    ·subst hop
     have e2:(a.1==x.1&&(a.2==x.2&&true))=(a==x):=by
      rw[Bool.and_true]
      rfl
     by_cases e:a=x
     ·rw[restU_same hh ho e] at hu
      have hg:=ih (k+1) 1 a (by omega) (by omega) (Or.inr ⟨rfl,ha,hah⟩) hu
      have e3:(a==x)=true:=by rw[e];simp
      refine gets_vc spR (fun k=> [[2,8,9,11,34,35,36],[2,8,9,11,14,15,34,35,36,41,42,43]].getD k []) (fun _=> []) 400 (.fork (.fork (.fork (.fork .stop (.fork (.hd 0) (.hd 0))) (.hd 1)) (.fork (.fork (.fork (.hd 1) (.fork (.fork .stop (.fork (.hd 0) (.hd 0))) (.hd 1))) (.f (.fork (.fork .stop (.fork (.hd 0) (.hd 0))) (.hd 1)))) (.fork (.fork .stop (.fork (.hd 0) (.hd 0))) (.hd 1)))) (.fork .stop (.fork (.hd 0) (.hd 0)))) (V:=vq22 g W B q m ws ch i l k a) hmG (fun G R=>by kernel_rfl) ?_
      unfold vq22
      try dsimp only
      simp only[Ty.dflt,hk1,hii,hxx,take_len,List.drop_zero,List.take_length,Mi_getD,Mi_len,Nt_Mi,Int.toNat_natCast,Mi_set,Nat.zero_add,Nat.sub_zero,List.length_set,take_one,takeSn,List.take_zero,List.nil_append,List.length_append,List.length_cons,List.length_nil,Mi_take,hh',ofN_one,e1,e2,e3,w10,Bool.not_true]
      simp (disch:=omega) only[oo,oop,ne_eq,Ty.dflt,reduceCtorEq]
      repeat' (first|with_reducible refine And.intro ?_ ?_|intro _)
      all_goals first|rfl|omega|assumption|trivial|(exfalso;simp_all;done)|(exfalso;omega)|skip
     ·rw[restU_diff hh ho e] at hu
      have hg:=h0 (by rw[←hu])
      have e3:(a==x)=false:=by rw[beq_eq_false_iff_ne];exact e
      refine gets_vc spR (fun k=> [[2,8,9,11,34,35,36],[2,8,9,11,14,15,34,35,36,41,42,43]].getD k []) (fun _=> []) 400 (.fork (.fork (.fork (.fork .stop (.fork (.hd 0) (.hd 0))) (.hd 1)) (.fork (.fork (.fork (.hd 1) (.fork (.fork .stop (.fork (.hd 0) (.hd 0))) (.hd 1))) (.f (.fork (.fork .stop (.fork (.hd 0) (.hd 0))) (.hd 1)))) (.fork (.fork .stop (.fork (.hd 0) (.hd 0))) (.hd 1)))) (.fork .stop (.fork (.hd 0) (.hd 0)))) (V:=vq22 g W B q m ws ch i l k a) hmG (fun G R=>by kernel_rfl) ?_
      unfold vq22
      try dsimp only
      simp only[Ty.dflt,hk1,hii,hxx,take_len,List.drop_zero,List.take_length,Mi_getD,Mi_len,Nt_Mi,Int.toNat_natCast,Mi_set,Nat.zero_add,Nat.sub_zero,List.length_set,take_one,takeSn,List.take_zero,List.nil_append,List.length_append,List.length_cons,List.length_nil,Mi_take,hh',ofN_one,e1,e2,e3,w2,w3,w4,w8,w10,Bool.not_true]
      simp (disch:=omega) only[oo,oop,ne_eq,Ty.dflt,reduceCtorEq]
      repeat' (first|with_reducible refine And.intro ?_ ?_|intro _)
      all_goals first|rfl|omega|assumption|trivial|(exfalso;simp_all;done)|(exfalso;omega)|skip
end Go.Proofs.YtnakmganodkliaaDoorAm
