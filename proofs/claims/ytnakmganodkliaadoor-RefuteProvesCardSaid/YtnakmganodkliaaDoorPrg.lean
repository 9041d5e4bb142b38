/- What refute.Prove may tell, for every problem (claim RefuteProves): the logic, the contracts and the plain laws (part 7) -/
import Derived.Test.YtnakmganodkliaaDoorProg
import Derived.IntWalk
import Derived.WalkKit
import Derived.Test.YtnakmganodkliaaDoorPrf
set_option linter.unusedVariables false
set_option linter.unusedSimpArgs false
namespace Go.Proofs.YtnakmganodkliaaDoorAm
open Go
theorem hm:Tryd.prog.follows .mixedOrders=true:=by kernel_rfl
def isB (k:Int):Bool:=decide (0≤k)&&decide (k<8)
def rot (h w q r c:Int):Int×Int:=if q=1 then(c,h-1-r) else if q=2 then(h-1-r,w-1-c) else if q=3 then(w-1-c,r) else(r,c)
def laidF (h w r c k:Int):Int×Int:=rot h w (k.tmod 4) r (if k>3 then w-1-c else c)
def placeF (h w i k:Int):Int:=(laidF h w (i/w) (i%w) k).1*(if k.tmod 2=1 then h else w)+(laidF h w (i/w) (i%w) k).2
def sp:Sp:=fun f args _=>match f,args with
 |85,[.v (.int _ k)]=>some {f:=85,args:=[.v (.int .i64 k)],val:= .v (.bool (isB k))}
 |119,[.v (.int _ h),.v (.int _ w),.agg [.v (.int _ r),.v (.int _ c)],.v (.int _ k)]=>
  some {f:=119,args:=[.v (.int .i64 h),.v (.int .i64 w),.agg [.v (.int .i64 r),.v (.int .i64 c)],.v (.int .i64 k)],val:= .agg [.v (.int .i64 (laidF h w r c k).1),.v (.int .i64 (laidF h w r c k).2)]}
 |88,[.v (.int _ h),.v (.int _ w),.v (.int _ i),.v (.int _ k)]=>some {f:=88,args:=[.v (.int .i64 h),.v (.int .i64 w),.v (.int .i64 i),.v (.int .i64 k)],val:= .v (.int .i64 (placeF h w i k))}
 |_,_=>none
def tm (n:Nat) (l:List (Nat×D)):List D:=(List.range n).map fun i=>(l.lookup i).getD .top
def hT (h w k:Int):Int:=if k.tmod 2=1 then w else h
def wT (h w k:Int):Int:=if k.tmod 2=1 then h else w
inductive Hint where
 |stop
 |t (h:Hint)
 |f (h:Hint)
 |fork (a b:Hint)
 |go (h:Hint)
 |hd (i:Nat)
 |cut (i:Nat)
def andL:List Prop→Prop→Prop
 | [],q=>q
 |p::ps,q=>p∧andL ps q
theorem andL_iff:∀{ps:List Prop} {q:Prop},andL ps q→(∀p∈ps,p)∧q
 | [],q,h=>⟨by simp,h⟩
 |p::ps,q,h=>by
  obtain⟨h1,h2⟩:=andL_iff h.2;refine⟨?_,h2⟩;intro x hx;rcases List.mem_cons.1 hx with hx|hx
  ·rw[hx];exact h.1
  ·exact h1 x hx
inductive Stuck:Nat→Prop
theorem Stuck.elim {n:Nat} {p:Prop} (h:Stuck n):p:=by cases h
def SameK (a b:List Item):Prop:=a=b
theorem SameK.same (a:List Item):SameK a a:=rfl
theorem sameK_iff (a:List Item):SameK a a↔True:=iff_of_true rfl trivial
def isG (ops:Array Oper) (i:Nat):Bool:=ops.toList.any fun o=>match o.guard with
 |some (j,_)=>j==i
 |none=>false
def putB (s:St) (t:Nat) (b:Bool):St:=⟨s.tmps.set t (.v (.bool b)),s.heap⟩
def vcD (P:Program) (ops:Array Oper):Nat→List Dec→Hint→St→(Hint→St→Prop)→Prop
 |_,[],h,s,K=>K h s
 |i,d::ds,h,s,K=>match stepD P ops d s with
  |none=>Stuck i
  |some (s',ps)=>andL ps (if isG ops i then match d.o.dst with
   |some t=>match s'.tmps[t]? with
    |some (.v (.bool b))=>match h with
     | .t h=>b=true∧vcD P ops (i+1) ds h (putB s' t true) K
     | .f h=>b=false∧vcD P ops (i+1) ds h (putB s' t false) K
     | .fork h1 h2=>(b=true→vcD P ops (i+1) ds h1 (putB s' t true) K)∧(b=false→vcD P ops (i+1) ds h2 (putB s' t false) K)
     |_=>Stuck i
    |_=>vcD P ops (i+1) ds h s' K
   |none=>vcD P ops (i+1) ds h s' K
  else vcD P ops (i+1) ds h s' K)
def setFx:List Dec→List (Option Bool)→List Dec
 |d::ds,f::fs=>{d with fix:=f}::setFx ds fs
 |ds,_=>ds
theorem setFx_length:∀(ds:List Dec) (fs:List (Option Bool)),(setFx ds fs).length=ds.length
 | [],_=>by simp[setFx]
 |_::_,[]=>by simp[setFx]
 |d::ds,f::fs=>by simp[setFx,setFx_length ds fs]
theorem stepD_fix {P:Program} {ops:Array Oper} {d:Dec} {s s':St} {ps:List Prop} (hd:d.fix=none) (h:stepD P ops d s=some (s',ps)) {t:Nat} (ht:d.o.dst=some t) {b:Bool} (hb:s'.tmps[t]? =some (.v (.bool b))) (c:Bool):
  stepD P ops {d with fix:=some c} s=some (putB s' t c,(b=c)::ps):=by
 rcases stepD_cases h with⟨h1,rfl,rfl⟩|⟨h1,E,hE,hk,rfl,rfl⟩
 ·rw[ht] at hb;simp only[putD] at hb;rw[List.getElem?_set] at hb;simp only[if_true] at hb;split at hb
  ·simp only[undef,sI,D.v.injEq] at hb;cases hb
  ·cases hb
 ·have hv:E.val= .v (.bool b):=by
   rw[ht] at hb;simp only[putD] at hb;rw[List.getElem?_set] at hb;simp only[if_true] at hb;split at hb
   ·simpa using hb
   ·cases hb
  have hE':effD P (rdOf s.heap d.forb) {d with fix:=some c} (evalD s.tmps)=some {E with val:= .v (.bool c),obl:=(b=c)::E.obl}:=by
   unfold effD at hE⊢;rw[hd] at hE;show(match opEff P (rdOf s.heap d.forb) d.nid d.sp d.o (evalD s.tmps) with|some E=>fixE (some c) E|none=>none)=_;split at hE
   ·rename_i E0 h0;simp only[fixE,sI] at hE;subst hE;rw[h0];simp only[fixE,hv]
   ·cases hE
  rw[stepD_yes (d:={d with fix:=some c}) h1 hE' hk];simp only[putB,sI,Prod.mk.injEq,St.mk.injEq,and_true,ht,putD,List.set_set]
theorem fix_self {d:Dec} (hd:d.fix=none):{d with fix:=none}=d:=by
 cases d;simp only at hd;rw[hd]
theorem vcD_sound {P:Program} {ops:Array Oper} {K:Hint→St→Prop}:∀(ds:List Dec) (i:Nat) (h:Hint) (s:St),(∀d∈ds,d.fix=none)→vcD P ops i ds h s K→
  ∃fx:List (Option Bool),fx.length=ds.length∧∃s' ps h',runD P ops (setFx ds fx) s=some (s',ps)∧(∀p∈ps,p)∧K h' s'
 | [],i,h,s,_,hv=>⟨[],rfl,s,[],h,rfl,by simp,hv⟩
 |d::ds,i,h,s,hn,hv=>by
  have hd:d.fix=none:=hn d List.mem_cons_self;have hn':∀d∈ds,d.fix=none:=fun x hx=>hn x (List.mem_cons_of_mem _ hx);unfold vcD at hv;split at hv
  ·exact hv.elim
  ·rename_i s' ps hs;obtain⟨hps,hv⟩:=andL_iff hv;have plain:∀{h':Hint},vcD P ops (i+1) ds h' s' K→∃fx:List (Option Bool),fx.length=(d::ds).length∧∃s' ps h',runD P ops (setFx (d::ds) fx) s=some (s',ps)∧(∀p∈ps,p)∧K h' s':=by
    intro h' hv;obtain⟨fx,hl,s2,qs,h2,hr,hq,hK⟩:=vcD_sound ds (i+1) h' s' hn' hv;refine⟨none::fx,by simp[hl],s2,ps++qs,h2,?_,?_,hK⟩
    ·simp only[setFx,runD,fix_self hd,hs,hr]
    ·intro p hp;rcases List.mem_append.1 hp with hp|hp
     ·exact hps p hp
     ·exact hq p hp
   have fixed:∀{h':Hint} {t:Nat} {b:Bool} (c:Bool),d.o.dst=some t→s'.tmps[t]? =some (.v (.bool b))→b=c→vcD P ops (i+1) ds h' (putB s' t c) K→
     ∃fx:List (Option Bool),fx.length=(d::ds).length∧∃s' ps h',runD P ops (setFx (d::ds) fx) s=some (s',ps)∧(∀p∈ps,p)∧K h' s':=by
    intro h' t b c ht hb hbc hv;obtain⟨fx,hl,s2,qs,h2,hr,hq,hK⟩:=vcD_sound ds (i+1) h' (putB s' t c) hn' hv;refine⟨some c::fx,by simp[hl],s2,((b=c)::ps)++qs,h2,?_,?_,hK⟩
    ·simp only[setFx,runD,stepD_fix hd hs ht hb c,hr]
    ·intro p hp;rcases List.mem_append.1 hp with hp|hp
     ·rcases List.mem_cons.1 hp with hp|hp
      ·rw[hp];exact hbc
      ·exact hps p hp
     ·exact hq p hp
   split at hv
   ·split at hv
    ·rename_i t ht;split at hv
     ·rename_i b hb;split at hv
      ·exact fixed true ht hb hv.1 hv.2
      ·exact fixed false ht hb hv.1 hv.2
      ·cases b with
       |true=>exact fixed true ht hb rfl (hv.1 rfl)
       |false=>exact fixed false ht hb rfl (hv.2 rfl)
      ·exact hv.elim
     ·exact plain hv
    ·exact plain hv
   ·exact plain hv
def asmOf:Nat→List (Option Bool)→List (Nat×Bool)
 |_,[]=> []
 |i,none::l=>asmOf (i+1) l
 |i,some b::l=>(i,b)::asmOf (i+1) l
theorem asmOf_low:∀(l:List (Option Bool)) (i k:Nat),k<i→(asmOf i l).lookup k=none
 | [],_,_,_=>rfl
 |none::l,i,k,h=>by simp only[asmOf];exact asmOf_low l _ _ (by omega)
 |some b::l,i,k,h=>by
  simp only[asmOf,List.lookup];rw[show(k==i)=false by simp;omega];exact asmOf_low l _ _ (by omega)
theorem asmOf_get:∀(l:List (Option Bool)) (i k:Nat) {f:Option Bool},l[k]? =some f→(asmOf i l).lookup (i+k)=f
 | [],_,_,_,h=>by simp at h
 |none::l,i,0,f,h=>by
  simp only[List.getElem?_cons_zero,sI] at h;subst h;simp only[asmOf];exact asmOf_low l _ _ (by omega)
 |some b::l,i,0,f,h=>by
  simp only[List.getElem?_cons_zero,sI] at h;subst h;simp[asmOf,List.lookup]
 |none::l,i,k+1,f,h=>by
  simp only[List.getElem?_cons_succ] at h;simp only[asmOf];rw[show i+(k+1)=i+1+k by omega];exact asmOf_get l _ _ h
 |some b::l,i,k+1,f,h=>by
  simp only[List.getElem?_cons_succ] at h;simp only[asmOf,List.lookup];rw[show(i+(k+1)==i)=false by simp];rw[show i+(k+1)=i+1+k by omega];exact asmOf_get l _ _ h
theorem decs_fx (sp:Sp) (asm:List (Nat×Bool)):∀(os:List Oper) (fx:List (Option Bool)) (i nid:Nat),fx.length=os.length→(∀k f,fx[k]? =some f→asm.lookup (i+k)=f)→decs sp asm i nid os=setFx (decs sp [] i nid os) fx
 | [],_,_,_,_,_=>by simp[decs,setFx]
 |o::os,[],_,_,hl,_=>by simp at hl
 |o::os,f::fx,i,nid,hl,h=>by
  simp only[decs,setFx];have h0:=h 0 f rfl;rw[Nat.add_zero] at h0;rw[h0,decs_fx sp asm os fx (i+1) (nid+weight sp o) (by simpa using hl) (fun k f hk=>by
   have:=h (k+1) f (by simpa using hk);rw[show i+(k+1)=i+1+k by omega] at this;exact this)]
theorem decs_none (sp:Sp):∀(os:List Oper) (i nid:Nat),∀d∈decs sp [] i nid os,d.fix=none
 | [],_,_,d,h=>by simp[decs] at h
 |o::os,i,nid,d,h=>by
  simp only[decs,List.mem_cons] at h;rcases h with h|h
  ·rw[h];rfl
  ·exact decs_none sp os _ _ d h
theorem zip_fx:∀(l:List Dec) (fx:List (Option Bool)) (is:List Nat) {β:Type} (F:Nat→Dec→List β),(∀i d f,F i {d with fix:=f}=F i d)→(is.zip (setFx l fx)).flatMap (fun p=>F p.1 p.2)=(is.zip l).flatMap (fun p=>F p.1 p.2)
 | [],fx,is,_,F,hF=>by simp[setFx]
 |d::l,[],is,_,F,hF=>by simp[setFx]
 |d::l,f::fx,[],_,F,hF=>by simp
 |d::l,f::fx,i::is,_,F,hF=>by
  simp only[setFx,List.zip_cons_cons,List.flatMap_cons,hF];rw[zip_fx l fx is F hF]
theorem zip_fx_all:∀(l:List Dec) (fx:List (Option Bool)) (is:List Nat) (F:Nat→Dec→Bool),(∀i d f,F i {d with fix:=f}=F i d)→(is.zip (setFx l fx)).all (fun p=>F p.1 p.2)=(is.zip l).all (fun p=>F p.1 p.2)
 | [],fx,is,F,hF=>by simp[setFx]
 |d::l,[],is,F,hF=>by simp[setFx]
 |d::l,f::fx,[],F,hF=>by simp
 |d::l,f::fx,i::is,F,hF=>by
  simp only[setFx,List.zip_cons_cons,List.all_cons,hF];rw[zip_fx_all l fx is F hF]
theorem guard1_fx (b:Array Nat) (W:List (List Nat)) (l:List Dec) (fx:List (Option Bool)) (i:Nat) (d:Dec):guard1 b W (numbered (setFx l fx)) (i,d)=guard1 b W (numbered l) (i,d):=by
 have h1:(numbered (setFx l fx)).flatMap (fun(j,e)=>if j≠i&& !ordered b i j then List.range' e.nid e.cnt++W.getD j [] else [])=(numbered l).flatMap (fun(j,e)=>if j≠i&& !ordered b i j then List.range' e.nid e.cnt++W.getD j [] else []):=by
  unfold numbered;rw[setFx_length];exact zip_fx l fx _ (fun j e=>if j≠i&& !ordered b i j then List.range' e.nid e.cnt++W.getD j [] else []) (fun _ _ _=>rfl)
 have h2:(numbered (setFx l fx)).all (fun(j,e)=>j=i||ordered b i j|| !heapy e.o)=(numbered l).all (fun(j,e)=>j=i||ordered b i j|| !heapy e.o):=by
  unfold numbered;rw[setFx_length];exact zip_fx_all l fx _ (fun j e=>j=i||ordered b i j|| !heapy e.o) (fun _ _ _=>rfl)
 unfold guard1;simp only[h1,h2]
theorem map_guard_fx (b:Array Nat) (W:List (List Nat)) (all:List (Nat×Dec)):∀(l:List Dec) (fx:List (Option Bool)) (is:List Nat),is.length=l.length→(is.zip (setFx l fx)).map (guard1 b W all)=setFx ((is.zip l).map (guard1 b W all)) fx
 | [],fx,is,_=>by simp[setFx]
 |d::l,[],is,_=>by cases is<;>simp[setFx]
 |d::l,f::fx,[],h=>by simp at h
 |d::l,f::fx,i::is,h=>by
  simp only[setFx,List.zip_cons_cons,List.map_cons];rw[map_guard_fx b W all l fx is (by simpa using h)];rfl
theorem decsDraw_fx {W:List (List Nat)} {sp:Sp} {asm:List (Nat×Bool)} {n:Nat} {ops:Array Oper} {fx:List (Option Bool)} (h:decs sp asm 0 n ops.toList=setFx (decs sp [] 0 n ops.toList) fx):decsDraw W sp asm n ops=setFx (decsDraw W sp [] n ops) fx:=by
 unfold decsDraw;simp only;rw[h,guardDecs_map,guardDecs_map];have:guard1 (Region.before ops) W (numbered (setFx (decs sp [] 0 n ops.toList) fx))=guard1 (Region.before ops) W (numbered (decs sp [] 0 n ops.toList)):=by
  funext ⟨i,d⟩
  exact guard1_fx _ _ _ _ _ _
 rw[this];unfold numbered;rw[setFx_length];exact map_guard_fx _ _ _ _ _ _ (by simp)
theorem decsDraw_none {W:List (List Nat)} {sp:Sp} {n:Nat} {ops:Array Oper}:∀d∈decsDraw W sp [] n ops,d.fix=none:=by
 intro d hd;unfold decsDraw at hd;simp only at hd;rw[guardDecs_map] at hd;obtain⟨p,hp,rfl⟩:=List.mem_map.1 hd;have:p.2∈decs sp [] 0 n ops.toList:=(List.of_mem_zip hp).2;exact(show(guard1 _ _ _ p).fix=p.2.fix from rfl).trans (decs_none sp _ _ _ _ this)
theorem decsDraw_length {W:List (List Nat)} {sp:Sp} {asm:List (Nat×Bool)} {n:Nat} {ops:Array Oper}:(decsDraw W sp asm n ops).length=ops.toList.length:=by
 unfold decsDraw;simp only;rw[guardDecs_map,List.length_map,numbered_length,decs_length]
def vcR (P:Program) (sp:Sp) (ops:Array Oper) (draw:Bool) (h:Hint) (s:St) (K:Hint→St→Prop):Prop:=
 if noDefer ops then
  if draw then
   if apartAll ops (Region.before ops)&&orderB ops (Region.before ops) then vcD P ops 0 (decsDraw (wsOf P sp ops s) sp [] s.heap.length ops) h ⟨s.tmps,s.heap++List.replicate (total sp ops.toList) .free⟩ K else Stuck 1000
  else vcD P ops 0 (decs sp [] 0 s.heap.length ops.toList) h ⟨s.tmps,s.heap++List.replicate (total sp ops.toList) .free⟩ K
 else Stuck 1001
theorem vcR_sound {P:Program} {sp:Sp} {ops:Array Oper} {draw:Bool} {h:Hint} {s:St} {K:Hint→St→Prop} (hv:vcR P sp ops draw h s K):
  ∃asm s' ps h',runR P sp asm ops draw s=some (s',ps)∧(∀p∈ps,p)∧K h' s':=by
 unfold vcR at hv;split at hv
 case isFalse=>exact hv.elim
 rename_i hnd;split at hv
 ·rename_i hd;split at hv
  ·rename_i hg;obtain⟨fx,hl,s',ps,h',hr,hp,hK⟩:=vcD_sound _ _ _ _ decsDraw_none hv;rw[decsDraw_length] at hl;refine⟨asmOf 0 fx,s',ps,h',?_,hp,hK⟩;unfold runR;simp only[hd,hnd,if_true];rw[if_pos hg,decsDraw_fx (decs_fx sp (asmOf 0 fx) ops.toList fx 0 _ hl (fun k f hk=>asmOf_get fx 0 k hk))];exact hr
  ·exact hv.elim
 ·rename_i hd;obtain⟨fx,hl,s',ps,h',hr,hp,hK⟩:=vcD_sound _ _ _ _ (decs_none sp _ _ _) hv;rw[decs_length] at hl;refine⟨asmOf 0 fx,s',ps,h',?_,hp,hK⟩;unfold runR;simp only;rw[if_pos hnd,if_neg hd,decs_fx sp (asmOf 0 fx) ops.toList fx 0 _ hl (fun k f hk=>asmOf_get fx 0 k hk)];exact hr
def stOf (nt:Nat) (keep:List Nat) (vals:List D) (H:Heap):St:=⟨(List.range nt).map fun i=>((keep.zip vals).lookup i).getD .top,H⟩
def normV (n:Nat) (keep:List Nat) (s:St):Option St:=
 let vals:=keep.map fun i=>s.tmps.getD i .top
 let ids:=gcIds n s.heap vals
 if packOk n ids s.heap vals then some (stOf s.tmps.length keep (renDs (pos ids) vals) (packH ids s.heap)) else none
theorem lookup_zip {α:Type} (g:Nat→α):∀(keep:List Nat) (i:Nat),(keep.zip (keep.map g)).lookup i=if i∈keep then some (g i) else none
 | [],i=>by simp
 |k::keep,i=>by
  simp only[List.map_cons,List.zip_cons_cons,List.lookup];by_cases h:i=k
  ·subst h;simp
  ·rw[show(i==k)=false by simpa using h];simp only[List.mem_cons,h,false_or];exact lookup_zip g keep i
theorem renDs_map (f:Nat→Nat):∀ds:List D,renDs f ds=ds.map (renD f)
 | []=>rfl
 |d::ds=>by simp only[renDs,List.map_cons,renDs_map f ds]
theorem relDs_at {X:Ctx}:∀{ds:List D} {us:List Value} {i:Nat} {d:D} {u:Value},RelDs X ds us→ds[i]? =some d→us[i]? =some u→RelD X d u
 | [],_,i,_,_,_,h,_=>by simp at h
 |d0::ds,us,i,d,u,hr,h1,h2=>by
  simp only[RelDs] at hr;obtain⟨u0,us',rfl,hr1,hr2⟩:=hr;cases i with
  |zero=>
   simp only[List.getElem?_cons_zero,sI] at h1 h2;subst h1;subst h2;exact hr1
  |succ i=>exact relDs_at hr2 (by simpa using h1) (by simpa using h2)
theorem shr_pack (X:Ctx) (ids:List Nat):Shr X (packX X ids):=by
 refine⟨rfl,rfl,fun id l h1 h2=> ?_⟩;have h2:X.ρ (ids.getD id 0)=some l:=h2;cases hr:hget (packX X ids).H id with
 |none=>exact absurd hr h1
 |some r=>
  obtain⟨_,r0,h3,_⟩:=pack_get ids (show hget (packH ids X.H) id=some r from hr);exact fun k hk=>⟨_,by rw[h3];simp,l,h2,hk⟩
section
variable {b:Beg} {X:Ctx}
theorem normV_rel {n:Nat} {keep:List Nat} {s s':St} {a:Act} (R:Rel b X s a) (hn:b.n=n) (h:normV n keep s=some s'):∃X',Shr X X'∧Rel b X' s' a:=by
 unfold normV at h;simp only at h;split at h
 ·rename_i hk;simp only[sI] at h;subst h;generalize hids:gcIds n s.heap (keep.map fun i=>s.tmps.getD i .top)=ids at hk⊢
  have hk':packOk n ids X.H (keep.map fun i=>s.tmps.getD i .top)=true:=by
   rw[R.heap];exact hk
  have hlen:=relDs_length R.tmps;refine⟨packX X ids,shr_pack X ids,mem_pack R.mem hn hk',?_,?_,?_,R.defers⟩
  ·simp only[stOf];refine relDs_of_get (by simp[hlen]) ?_;intro i d u h1 h2;rw[renDs_map,List.map_map,List.getElem?_map] at h1;have hi:=(List.getElem?_eq_some_iff.1 h2).1;have hi2:i<s.tmps.length:=by omega
   rw[List.getElem?_range hi2] at h1;simp only[Option.map_some,sI] at h1;rw[lookup_zip] at h1;subst h1;split
   ·rename_i hm;simp only[Option.getD_some,Function.comp];refine pack_rel ids ?_ (relDs_at R.tmps (i:=i) ?_ h2)
    ·unfold packOk at hk;simp only[Bool.and_eq_true] at hk;have h4:=hk.1.2;have:∀(l:List D) (d:D),d∈l→inB ids (refsDs l)=true→inB ids (refsD d)=true:=by
      intro l;induction l with
      |nil=>intro d hd;simp at hd
      |cons x l ih=>
       intro d hd hin;simp only[refsDs,inB,List.all_append,Bool.and_eq_true] at hin;rcases List.mem_cons.1 hd with e|e
       ·rw[e];exact hin.1
       ·exact ih d e hin.2
     exact this _ _ (List.mem_map.2 ⟨i,hm,rfl⟩) h4
    ·rw[gE,gQ hi2];rfl
   ·simp only[Option.getD_none,RelD]
  ·show packH _ X.H=_;rw[R.heap];rfl
  ·unfold packOk at hk;simp only[Bool.and_eq_true,decide_eq_true_eq] at hk;show b.n≤(packH _ _).length;rw[hn];simpa [packH] using hk.1.1.2
 ·cases h
end
structure Co where
 t:Nat
 e:TypeId
 ty:Ty
def Co.tmp (c:Co):Nat:=c.t%10000
def Co.cell (c:Co):Nat:=c.t/10000%100
def innAt:Ty→Option (Nat×Ty)
 | .sl u=>some (0,u)
 | .prod a b=>match innAt a with
  |some x=>some x
  |none=>(innAt b).map fun x=>(a.size+x.1,x.2)
 |_=>none
def Co.row (c:Co):Row:=match c.t/1000000%1000 with
 |m+1=>(match innAt c.ty with
  |some (p,u)=> .nest ⟨c.e,c.ty,p,m,u⟩ [] none
  |none=> .data c.e c.ty [])
 |0=> .data c.e c.ty []
theorem Co.row_dims (c:Co):∃sz,c.row.dims=some (sz,0):=by
 unfold Co.row;split
 ·split<;>exact⟨_,rfl⟩
 ·exact⟨_,rfl⟩
theorem Co.row_none (c:Co) (X:Ctx):RelRow X c.row none:=by
 unfold Co.row;split
 ·split<;>rfl
 ·rfl
def roomOk (H:Heap) (id n:Nat):Bool:=match(hget H id).bind Row.dims with
 |some (_,m)=>decide (m≤n)
 |none=>false
def coe1 (c:Co) (s:St):St:=
 match s.tmps[c.tmp]? with
 |some (.v (.slice none 0 0))=>⟨s.tmps.set c.tmp (.own s.heap.length 0 0 none),s.heap++[.live c.row]⟩
 |some (.own id off len (some k))=>if roomOk s.heap id (off+k) then⟨s.tmps.set c.tmp (.own id off len none),s.heap⟩ else s
 |some (.ptr i _ _)=>match hget s.heap i with
  |some (.box e ds)=>match ds[c.cell]? with
   |some (.v (.slice none 0 0))=>⟨s.tmps,(s.heap++[Slot.live c.row]).set i (.live (.box e (ds.set c.cell (.own s.heap.length 0 0 none))))⟩
   |some (.own id off len (some k))=>if roomOk s.heap id (off+k) then⟨s.tmps,s.heap.set i (.live (.box e (ds.set c.cell (.own id off len none))))⟩ else s
   |_=>s
  |_=>s
 |_=>s
theorem roomOk_iff {H:Heap} {id n:Nat} (h:roomOk H id n=true):∃r sz m,hget H id=some r∧r.dims=some (sz,m)∧m≤n:=by
 unfold roomOk at h;split at h
 ·rename_i sz m hd;cases hg:hget H id with
  |none=>rw[hg] at hd;cases hd
  |some r=>rw[hg] at hd;exact⟨r,sz,m,rfl,hd,of_decide_eq_true h⟩
 ·cases h
def mvH (H:Heap) (id:Nat) (e:TypeId) (t:Ty) (xs:List t.El):Heap:=(H++[Slot.live (.data e t xs)]).set id .dead
def mv1 (c:Co) (s:St):St:=
 match s.tmps[c.tmp]? with
 |some (.own id off len _)=>match hget s.heap id with
  |some (.data e t xs)=>⟨s.tmps.set c.tmp (.own s.heap.length 0 len none),mvH s.heap id e t ((xs.drop off).take len)⟩
  |_=>s
 |some (.ptr i _ _)=>match hget s.heap i with
  |some (.box e ds)=>match ds[c.cell]? with
   |some (.own id off len _)=>match hget s.heap id with
    |some (.data e' t xs)=>⟨s.tmps,(mvH s.heap id e' t ((xs.drop off).take len)).set i (.live (.box e (ds.set c.cell (.own s.heap.length 0 len none))))⟩
    |_=>s
   |_=>s
  |_=>s
 |_=>s
def nilAt (c:Co) (s:St):Bool:=match s.tmps[c.tmp]? with
 |some (.v (.slice none 0 0))=>true
 |some (.ptr i _ _)=>match hget s.heap i with
  |some (.box _ ds)=>match ds[c.cell]? with
   |some (.v (.slice none 0 0))=>true
   |_=>false
  |_=>false
 |_=>false
def coe2 (c:Co) (s:St):St:=if c.t/1000000000=0||nilAt c s then coe1 c s else mv1 c s
def coes:List Co→St→St
 | [],s=>s
 |c::cs,s=>coes cs (coe2 c s)
def holeIds:Nat→Heap→List Nat
 |_,[]=> []
 |i,.live (.nest _ _ (some _))::H=>i::holeIds (i+1) H
 |i,_::H=>holeIds (i+1) H
def unf1 (s:St) (id:Nat):St:=match hget s.heap id with
 |some (.nest k xs h)=>match unf (hget s.heap) k xs h with
  |some (xs',ws)=>⟨s.tmps,(setWrites s.heap ws).set id (.live (.nest k xs' none))⟩
  |none=>s
 |_=>s
def unfs:List Nat→St→St
 | [],s=>s
 |i::is,s=>unfs is (unf1 s i)
def coeS (cs:List Co) (s:St):St:=
 if cs.any (fun c=>c.ty== .unit) then coes cs s else unfs (holeIds 0 (coes cs s).heap) (coes cs s)
theorem slot_end (H:Heap) (r:Slot) (id:Nat):slot (H++[r]) id=if id=H.length then r else slot H id:=by
 unfold slot;rw[gE,gE];split
 ·rename_i h;rw[h,List.getElem?_append_right (Nat.le_refl _)];simp
 ·rename_i h;rcases Nat.lt_or_ge id H.length with h1|h1
  ·rw[List.getElem?_append_left h1]
  ·rw[List.getElem?_eq_none (by simp;omega),List.getElem?_eq_none h1]
section
variable {b:Beg} {X:Ctx}
def coeX (X:Ctx) (r0:Row):Ctx:=⟨fun id=>if id=X.H.length then none else X.ρ id,X.H++[.live r0],X.S,X.w⟩
theorem coeX_slot (X:Ctx) (r0:Row) (id:Nat):slot (coeX X r0).H id=if id=X.H.length then .live r0 else slot X.H id:=slot_end _ _ _
theorem coeX_le (X:Ctx) (r0:Row):Le X (coeX X r0):=by
 refine⟨fun k hk=>⟨hk,rfl⟩,fun id=> ?_⟩;by_cases h:id=X.H.length
 ·have:slot X.H id= .free:=by
   subst h;simp[slot]
  unfold Pair;rw[this];trivial
 ·have hs:slot (coeX X r0).H id=slot X.H id:=by rw[coeX_slot,if_neg h]
  have hρ:(coeX X r0).ρ id=X.ρ id:=if_neg h;unfold Pair;rw[hs];cases slot X.H id with
  |free=>trivial
  |dead=>trivial
  |live r=>exact⟨Comp.refl r,by unfold Ctx.pl;rw[hρ]⟩
theorem coeX_mem (M:Mem b X) (hl:b.n≤X.H.length) (r0:Row) (hr0:∀Y,RelRow Y r0 none):Mem b (coeX X r0):=by
 have hg:∀id,hget (coeX X r0).H id≠none→id=X.H.length∨(id≠X.H.length∧hget X.H id≠none):=by
  intro id h;unfold hget at h;rw[coeX_slot] at h;by_cases hi:id=X.H.length
  ·exact .inl hi
  ·rw[if_neg hi] at h;exact .inr ⟨hi,h⟩
 have hr:∀{id p},(coeX X r0).ρ id=some p→id≠X.H.length∧X.ρ id=some p:=by
  intro id p h;by_cases hi:id=X.H.length
  ·simp[coeX,hi] at h
  ·exact⟨hi,by simpa [coeX,hi] using h⟩
 refine⟨M.os,M.tape,M.output,M.size,?_,?_,?_,M.stab,M.keep,?_,?_,M.sub,M.sup,M.glob,?_⟩
 ·intro i j p q hi hj hp hq k hkp hkq;obtain⟨h1,h2⟩:=hr hp;obtain⟨h3,h4⟩:=hr hq;rcases hg i hi with h|⟨_,h⟩
  ·exact absurd h h1
  ·rcases hg j hj with h'|⟨_,h'⟩
   ·exact absurd h' h3
   ·exact M.inj i j p q h h' h2 h4 k hkp hkq
 ·intro id r h;have hs:=hget_live.1 h;rw[coeX_slot] at hs;by_cases hi:id=X.H.length
  ·rw[if_pos hi] at hs;simp only[Slot.live.injEq] at hs;subst hs;show RelRow _ _ (if id=X.H.length then none else X.ρ id);rw[if_pos hi];exact hr0 _
  ·rw[if_neg hi] at hs;show RelRow _ _ (if id=X.H.length then none else X.ρ id);rw[if_neg hi];exact relRow_le (coeX_le X r0) (fun _ _ _ _=>rfl) (M.rows id r (hget_live.2 hs))
 ·intro id p hid hp;obtain⟨h1,h2⟩:=hr hp;rcases hg id hid with h|⟨_,h⟩
  ·exact absurd h h1
  ·exact M.sep id p h h2
 ·intro id p hid hp;obtain⟨h1,h2⟩:=hr hp;rcases hg id hid with h|⟨_,h⟩
  ·exact absurd h h1
  ·exact M.fresh id p h h2
 ·intro id h hid;rcases hg id hid with h'|⟨h1,h'⟩
  ·omega
  ·show(if id=X.H.length then none else X.ρ id).map Loc.toPl=_;rw[if_neg h1];exact M.old id h h'
 ·intro id r p h hp;obtain⟨h1,h2⟩:=hr hp;have hs:=hget_live.1 h;rw[coeX_slot,if_neg h1] at hs;exact M.ok id r p (hget_live.2 hs) h2
theorem shr_coe (X:Ctx) (r0:Row):Shr X (coeX X r0):=by
 refine⟨rfl,rfl,fun id l h1 h2=> ?_⟩;have h2:(if id=X.H.length then none else X.ρ id)=some l:=h2;split at h2
 ·cases h2
 ·rename_i hne;refine fun k hk=>⟨id,?_,l,h2,hk⟩;intro h3;apply h1;unfold hget;rw[coeX_slot,if_neg hne];exact h3
def boxX (X:Ctx) (id:Nat) (r:Row):Ctx:=⟨X.ρ,X.H.set id (.live r),X.S,X.w⟩
theorem boxX_le {X:Ctx} {id:Nat} {e e':TypeId} {cs cs':List D} (h:hget X.H id=some (.box e cs)):Le X (boxX X id (.box e' cs')):=by
 have hs:=hget_live.1 h;refine⟨fun k hk=>⟨hk,rfl⟩,fun j=> ?_⟩;have hj:slot (boxX X id (.box e' cs')).H j=if id=j∧id<X.H.length then .live (.box e' cs') else slot X.H j:=slot_set _ _ _ _
 unfold Pair;rw[hj];by_cases hi:id=j
 ·subst hi;rw[if_pos ⟨rfl,lt_of_slot (by rw[hs];simp)⟩,hs];exact⟨rfl,rfl⟩
 ·rw[if_neg (fun h=>hi h.1)];cases slot X.H j with
  |free=>trivial
  |dead=>trivial
  |live r=>exact⟨Comp.refl r,rfl⟩
theorem boxX_mem (M:Mem b X) {id:Nat} {e e':TypeId} {cs cs':List D} (h:hget X.H id=some (.box e cs)) (hr:RelRow X (.box e' cs') (X.ρ id)):Mem b (boxX X id (.box e' cs')):=by
 have hg:∀j,hget (boxX X id (.box e' cs')).H j≠none→hget X.H j≠none:=by
  intro j hj;by_cases hi:id=j
  ·subst hi;rw[h];simp
  ·rw[show hget (boxX X id (.box e' cs')).H j=hget X.H j from by rw[show(boxX X id (.box e' cs')).H=X.H.set id _ from rfl,hget_set,if_neg (fun h=>hi h.1)]] at hj;exact hj
 refine⟨M.os,M.tape,M.output,M.size,fun i j p q hi hj=>M.inj i j p q (hg i hi) (hg j hj),?_,fun j p hj=>M.sep j p (hg j hj),M.stab,M.keep,fun j p hj=>M.fresh j p (hg j hj),fun j hb hj=>M.old j hb (hg j hj),M.sub,M.sup,M.glob,?_⟩;rotate_left
 rotate_left
 intro j r hj;rw[show hget (boxX X id (.box e' cs')).H j=_ from hget_set _ _ _ _] at hj;split at hj
 ·rename_i hi;simp only[sI] at hj;subst hj;rw[←hi.1];exact relRow_le (boxX_le h) (fun _ _ _ _=>rfl) hr
 ·exact relRow_le (boxX_le h) (fun _ _ _ _=>rfl) (M.rows j r hj)
 intro j r p hj hp;rw[show hget (boxX X id (.box e' cs')).H j=_ from hget_set _ _ _ _] at hj;split at hj
 ·rename_i hi;simp only[sI] at hj;subst hj;rw[←hi.1] at hp;exact(M.ok id (.box e cs) p h hp:p.inn=[])
 ·exact M.ok j r p hj hp
theorem shr_box (X:Ctx) {id:Nat} {e e':TypeId} {cs cs':List D} (h:hget X.H id=some (.box e cs)):Shr X (boxX X id (.box e' cs')):=by
 refine⟨rfl,rfl,fun j l h1 h2 k hk=>⟨j,?_,l,h2,hk⟩⟩;intro h3;apply h1;rw[show hget (boxX X id (.box e' cs')).H j=_ from hget_set _ _ _ _];split
 ·rename_i hi;rw[←hi.1,h] at h3;cases h3
 ·exact h3
theorem relDs_turn {X:Ctx} {ds:List D} {i:Nat} {d d':D} {us:List Value} (h:RelDs X ds us) (hi:ds[i]? =some d) (hd:∀u,RelD X d u→RelD X d' u):RelDs X (ds.set i d') us:=by
 refine relDs_of_get (by simp[relDs_length h]) ?_;intro j x u h1 h2;rw[List.getElem?_set] at h1;split at h1
 ·rename_i hj;split at h1
  ·simp only[sI] at h1;subst h1;subst hj;exact hd u (relDs_at h hi h2)
  ·cases h1
 ·exact relDs_at h h1 h2
theorem relRow_box {X:Ctx} {e:TypeId} {d d':D} {ds:List D} {i:Nat} {p:Option Loc} (h:RelRow X (.box e ds) p) (hi:ds[i]? =some d) (hd:∀u,RelD X d u→RelD X d' u):RelRow X (.box e (ds.set i d')) p:=by
 cases p with
 |none=>exact h
 |some l=>
  obtain⟨cs,ty,h1,h2,h3,us,h4,h5,h6⟩:=h;exact⟨cs,ty,h1,h2,h3,us,h4,relDs_turn h5 hi hd,h6⟩
theorem own_new (X:Ctx) (c:Co) {u:Value} (h:RelD X (.v (.slice none 0 0)) u):RelD (coeX X c.row) (.own X.H.length 0 0 none) u:=by
 obtain⟨sz,hd⟩:=c.row_dims;simp only[RelD] at h;subst h;simp only[RelD];rw[coeX_slot,if_pos rfl];simp only[hd];refine⟨by simp,none,0,rfl,by simp,by simp,by simp,by simp,.inl rfl⟩
theorem coe1_rel {s:St} {a:Act} (R:Rel b X s a) (c:Co):∃X',Shr X X'∧Rel b X' (coe1 c s) a:=by
 unfold coe1;split
 ·rename_i ht;refine⟨coeX X c.row,shr_coe X c.row,coeX_mem R.mem (by rw[R.heap];exact R.len) _ c.row_none,?_,?_,?_,R.defers⟩
  ·have hT:=(coeX_le X c.row).ds R.tmps;refine relDs_of_get (by simp[relDs_length R.tmps]) ?_;intro i d u h1 h2;rw[List.getElem?_set] at h1;split at h1
   ·rename_i hi;split at h1
    ·simp only[sI] at h1;subst h1;subst hi;have hu:=relDs_at R.tmps ht h2;rw[←R.heap];exact own_new X c hu
    ·cases h1
   ·exact relDs_at hT h1 h2
  ·show X.H++_=_;rw[R.heap]
  ·have:=R.len;simp;omega
 ·rename_i id off len k ht;split
  ·rename_i hk;obtain⟨r,sz,m,hr,hd,hk⟩:=roomOk_iff hk;refine⟨X,Shr.refl X,R.mem,?_,R.heap,R.len,R.defers⟩;exact relDs_turn R.tmps ht fun u hu=>own_forget (by rw[R.heap];exact hget_live.1 hr) hd hk hu
  ·exact⟨X,Shr.refl X,R⟩
 ·rename_i i i1 i2 ht;split
  ·rename_i e ds hi;have hl:i<X.H.length:=by rw[R.heap];exact lt_of_slot (by rw[hget_live.1 hi];simp)
   split
   ·rename_i hc;have hX:hget (coeX X c.row).H i=some (.box e ds):=by
     have h1:=hget_live.1 hi;rw[←R.heap] at h1;rw[hget_live,coeX_slot,if_neg (by omega),h1]
    have M1:=coeX_mem R.mem (by rw[R.heap];exact R.len) c.row c.row_none;have hrow:RelRow (coeX X c.row) (.box e (ds.set c.cell (.own X.H.length 0 0 none))) ((coeX X c.row).ρ i):=by
     refine relRow_box (M1.rows i _ hX) hc (fun u hu=>own_new X c ?_);simpa only[RelD] using hu
    rw[←R.heap];refine⟨boxX (coeX X c.row) i (.box e (ds.set c.cell (.own X.H.length 0 0 none))),(shr_coe X c.row).trans (shr_box _ hX),boxX_mem M1 hX hrow,(boxX_le hX).ds ((coeX_le X c.row).ds R.tmps),rfl,?_,R.defers⟩;have:=R.len;rw[←R.heap] at this;show b.n≤((X.H++_).set i _).length;simp;omega
   ·rename_i id off len k hc;split
    ·rename_i hk;obtain⟨r,sz,m,hr,hd,hk⟩:=roomOk_iff hk;have hX:hget X.H i=some (.box e ds):=by rw[R.heap];exact hi
     have hrow:RelRow X (.box e (ds.set c.cell (.own id off len none))) (X.ρ i):=
      relRow_box (R.mem.rows i _ hX) hc (fun u hu=>own_forget (by rw[R.heap];exact hget_live.1 hr) hd hk hu)
     rw[←R.heap];refine⟨boxX X i (.box e (ds.set c.cell (.own id off len none))),shr_box _ hX,boxX_mem R.mem hX hrow,(boxX_le hX).ds R.tmps,rfl,?_,R.defers⟩;have:=R.len;rw[←R.heap] at this;show b.n≤(X.H.set i _).length;simp;omega
    ·exact⟨X,Shr.refl X,R⟩
   ·exact⟨X,Shr.refl X,R⟩
  ·exact⟨X,Shr.refl X,R⟩
 ·exact⟨X,Shr.refl X,R⟩
def mvX (X:Ctx) (id off sz:Nat) (e:TypeId) (t:Ty) (xs:List t.El):Ctx:=⟨fun j=>if j=X.H.length then(X.ρ id).map fun l=>Loc.of l.b (l.o+off*sz) l.n else X.ρ j,mvH X.H id e t xs,X.S,X.w⟩
theorem mv_slot (X:Ctx) {id off sz:Nat} (hl:id<X.H.length) (e:TypeId) (t:Ty) (xs:List t.El) (j:Nat):slot (mvX X id off sz e t xs).H j=if j=id then .dead else if j=X.H.length then .live (.data e t xs) else slot X.H j:=by
 show slot ((X.H++[_]).set id .dead) j=_;rw[slot_set,slot_end];by_cases hj:j=id
 ·subst hj;rw[if_pos ⟨rfl,by simp;omega⟩,if_pos rfl]
 ·rw[if_neg (fun h=>hj h.1.symm),if_neg hj]
theorem mv_le (X:Ctx) {id off sz:Nat} (hl:id<X.H.length) (e:TypeId) (t:Ty) (xs:List t.El):Le X (mvX X id off sz e t xs):=by
 refine⟨fun k hk=>⟨hk,rfl⟩,fun j=> ?_⟩;unfold Pair;rw[mv_slot X hl];by_cases hj:j=id
 ·subst hj;rw[if_pos rfl];cases slot X.H j<;>trivial
 ·rw[if_neg hj];by_cases hi:j=X.H.length
  ·have:slot X.H j= .free:=by
    subst hi;simp[slot]
   rw[this];trivial
  ·rw[if_neg hi];cases slot X.H j with
   |free=>trivial
   |dead=>trivial
   |live r=>
    refine⟨Comp.refl r,?_⟩;unfold Ctx.pl;rw[show(mvX X id off sz e t xs).ρ j=X.ρ j from if_neg hi]
theorem mv_mem (M:Mem b X) (hb:b.n≤X.H.length) {id off len:Nat} {e:TypeId} {t:Ty} {xs:List t.El} (hr:hget X.H id=some (.data e t xs)) (hx:off+len≤xs.length):Mem b (mvX X id off t.size e t ((xs.drop off).take len)):=by
 have hl:id<X.H.length:=lt_of_slot (by rw[hget_live.1 hr];simp);have hg:∀j,hget (mvX X id off t.size e t ((xs.drop off).take len)).H j≠none→j=X.H.length∨(j≠X.H.length∧j≠id∧hget X.H j≠none):=by
  intro j h;unfold hget at h;rw[mv_slot X hl] at h;by_cases hj:j=id
  ·rw[if_pos hj] at h;exact absurd rfl h
  ·rw[if_neg hj] at h;by_cases hi:j=X.H.length
   ·exact .inl hi
   ·rw[if_neg hi] at h;exact .inr ⟨hi,hj,h⟩
 have hρ:∀{j p},(mvX X id off t.size e t ((xs.drop off).take len)).ρ j=some p→(j=X.H.length∧∃l,X.ρ id=some l∧p=Loc.of l.b (l.o+off*t.size) l.n)∨(j≠X.H.length∧X.ρ j=some p):=by
  intro j p h;by_cases hi:j=X.H.length
  ·simp only[mvX,hi,if_true] at h;cases hx:X.ρ id with
   |none=>rw[hx] at h;cases h
   |some l=>
    rw[hx] at h;exact .inl ⟨hi,l,rfl,(Option.some.inj h).symm⟩
  ·exact .inr ⟨hi,by simpa [mvX,hi] using h⟩
 have hid:hget X.H id≠none:=by rw[hr];simp
 have hbs:∀{l:Loc} {k o n},k∈(Loc.of l.b o n).bs→k∈l.bs:=by
  intro l k o n h;rw[Loc.bs_of,List.mem_singleton] at h;subst h;exact l.b_in
 refine⟨M.os,M.tape,M.output,M.size,?_,?_,?_,M.stab,M.keep,?_,?_,M.sub,M.sup,M.glob,?_⟩
 ·intro i j p q hi hj hp hq k hkp hkq;rcases hg i hi with h|⟨h1,h1',h⟩<;>rcases hg j hj with h'|⟨h2,h2',h'⟩<;>rcases hρ hp with⟨e1,l,hl1,rfl⟩|⟨e1,hp⟩<;>rcases hρ hq with⟨e2,l',hl2,rfl⟩|⟨e2,hq⟩<;>first|omega|skip
  ·exact absurd (M.inj id j l q hid h' hl1 hq k (hbs hkp) hkq).symm h2'
  ·exact absurd (M.inj i id p l' h hid hp hl2 k hkp (hbs hkq)) h1'
  ·exact M.inj i j p q h h' hp hq k hkp hkq
 ·intro j r h;have hs:=hget_live.1 h;rw[mv_slot X hl] at hs;by_cases hj:j=id
  ·rw[if_pos hj] at hs;cases hs
  ·rw[if_neg hj] at hs;by_cases hi:j=X.H.length
   ·rw[if_pos hi] at hs;simp only[Slot.live.injEq] at hs;subst hs;have hrow:=M.rows id _ hr;show RelRow _ _ (if j=X.H.length then _ else X.ρ j);rw[if_pos hi];cases hx':X.ρ id with
    |none=>
     rw[hx'] at hrow;have hrow:xs=[]:=hrow;show(xs.drop off).take len=[];rw[hrow];simp
    |some l=>
     rw[hx'] at hrow;obtain⟨cs,ty,h1,h2,h3,us,h4,h5,h6,h7⟩:=hrow;have hul:=reps_length h4;have hm1:(off+len)*t.size≤us.length:=by rw[hul];exact Nat.mul_le_mul_right _ hx
     rw[Nat.add_mul] at hm1;have hlen:((us.drop (off*t.size)).take (len*t.size)).length=len*t.size:=by
      rw[List.length_take,List.length_drop];omega
     refine⟨cs,ty,h1,h2,h3,(us.drop (off*t.size)).take (len*t.size),?_,fun u hu=>h5 u (List.mem_of_mem_drop (List.mem_of_mem_take hu)),?_,?_⟩
     ·exact(h4.drop (RelE_length t) off).take (RelE_length t) len
     ·show l.o+off*t.size+_≤l.n;rw[hlen];omega
     ·intro i u hu;rw[List.getElem?_take] at hu;split at hu
      ·rw[List.getElem?_drop] at hu;have:=h7 _ u hu;rw[show l.o+(off*t.size+i)=l.o+off*t.size+i by omega] at this;exact this
      ·cases hu
   ·rw[if_neg hi] at hs;show RelRow _ _ (if j=X.H.length then _ else X.ρ j);rw[if_neg hi];exact relRow_le (mv_le X hl e t _) (fun _ _ _ _=>rfl) (M.rows j r (hget_live.2 hs))
 ·intro j p hj hp k hk;rcases hg j hj with h|⟨h1,h1',h⟩<;>rcases hρ hp with⟨e1,l,hl1,rfl⟩|⟨e1,hp⟩<;>first|omega|skip
  ·exact M.sep id l hid hl1 k (hbs hk)
  ·exact M.sep j p h hp k hk
 ·intro j p hj hp k hk;rcases hg j hj with h|⟨h1,h1',h⟩<;>rcases hρ hp with⟨e1,l,hl1,rfl⟩|⟨e1,hp⟩<;>first|omega|skip
  ·exact M.fresh id l hid hl1 k (hbs hk)
  ·exact M.fresh j p h hp k hk
 ·intro j h hj;rcases hg j hj with h'|⟨h1,h1',h'⟩
  ·omega
  ·show(if j=X.H.length then _ else X.ρ j).map Loc.toPl=_;rw[if_neg h1];exact M.old j h h'
 ·intro j r p h hp;rcases hρ hp with⟨e1,l,hl1,rfl⟩|⟨e1,hp⟩
  ·have hs:=hget_live.1 h;rw[mv_slot X hl,if_neg (by omega),if_pos e1] at hs;simp only[Slot.live.injEq] at hs;subst hs;rfl
  ·have hs:=hget_live.1 h;rw[mv_slot X hl] at hs;by_cases hj:j=id
   ·rw[if_pos hj] at hs;cases hs
   ·rw[if_neg hj,if_neg e1] at hs;exact M.ok j r p (hget_live.2 hs) hp
theorem shr_mv (X:Ctx) {id off len:Nat} {e:TypeId} {t:Ty} {xs:List t.El} (hr:hget X.H id=some (.data e t xs)):Shr X (mvX X id off t.size e t ((xs.drop off).take len)):=by
 have hl:id<X.H.length:=lt_of_slot (by rw[hget_live.1 hr];simp);refine⟨rfl,rfl,fun j l h1 h2 k hk=> ?_⟩;have h2:(if j=X.H.length then(X.ρ id).map fun l=>Loc.of l.b (l.o+off*t.size) l.n else X.ρ j)=some l:=h2;unfold hget at h1;rw[mv_slot X hl] at h1;by_cases hi:j=X.H.length
 ·rw[if_pos hi] at h2;cases hx:X.ρ id with
  |none=>rw[hx] at h2;cases h2
  |some l'=>
   rw[hx] at h2;have h2:Loc.of l'.b (l'.o+off*t.size) l'.n=l:=Option.some.inj h2;subst h2;rw[Loc.bs_of,List.mem_singleton] at hk;subst hk;exact⟨id,by rw[hr];simp,l',hx,l'.b_in⟩
 ·rw[if_neg hi] at h2;by_cases hj:j=id
  ·rw[if_pos hj] at h1;exact absurd rfl h1
  ·rw[if_neg hj,if_neg hi] at h1;exact⟨j,h1,l,h2,hk⟩
theorem own_mv (M:Mem b X) {id off len:Nat} {cap:Option Nat} {e:TypeId} {t:Ty} {xs:List t.El} (hr:hget X.H id=some (.data e t xs)) {u:Value} (h:RelD X (.own id off len cap) u):off+len≤xs.length∧RelD (mvX X id off t.size e t ((xs.drop off).take len)) (.own X.H.length 0 len none) u:=by
 have hl:id<X.H.length:=lt_of_slot (by rw[hget_live.1 hr];simp);simp only[RelD] at h;rw[hget_live.1 hr] at h;simp only[Row.dims] at h;obtain⟨h1,A,c,h2,h3,h4,h5,h6,h7⟩:=h;refine⟨h1,?_⟩;simp only[RelD];rw[mv_slot X hl,if_neg (by omega),if_pos rfl];simp only[Row.dims];have hlen:((xs.drop off).take len).length=len:=by rw[List.length_take,List.length_drop];omega
 refine⟨by rw[hlen];omega,A,c,h2,h3,h4,by simp,fun _=>by rw[hlen];omega,?_⟩;rcases h7 with h7|⟨p,hp,h8,h9⟩
 ·exact .inl h7
 ·refine .inr ⟨⟨p.b,p.o+off*t.size,p.n⟩,?_,?_,?_⟩
  ·obtain⟨l,hl1,rfl⟩:=Ctx.pl_some hp;unfold Ctx.pl;show Option.map _ (if X.H.length=X.H.length then _ else _)=_;rw[if_pos rfl,hl1];rfl
  ·rw[h8];simp
  ·simp only[Nat.zero_add];rw[Nat.add_mul] at h9;omega
theorem mv1_rel {s:St} {a:Act} (R:Rel b X s a) (c:Co):∃X',Shr X X'∧Rel b X' (mv1 c s) a:=by
 unfold mv1;split
 ·rename_i id off len cap ht;split
  ·rename_i e t xs hr;rw[←R.heap] at hr;have hl:id<X.H.length:=lt_of_slot (by rw[hget_live.1 hr];simp);obtain⟨u,hu⟩:∃u,a.tmps.toList[c.tmp]? =some u:=by
    have h0:=relDs_length R.tmps;have h1:=(List.getElem?_eq_some_iff.1 ht).1;exact⟨a.tmps.toList[c.tmp]'(by omega),gQ _⟩
   obtain⟨hx,hn⟩:=own_mv R.mem hr (relDs_at R.tmps ht hu);rw[←R.heap];refine⟨_,shr_mv X (off:=off) (len:=len) hr,mv_mem R.mem (by rw[R.heap];exact R.len) hr hx,?_,rfl,?_,R.defers⟩
   ·have hT:=(mv_le X hl (off:=off) (sz:=t.size) e t ((xs.drop off).take len)).ds R.tmps;refine relDs_of_get (by simp[relDs_length R.tmps]) ?_;intro i d v h1 h2;rw[List.getElem?_set] at h1;split at h1
    ·rename_i hi;split at h1
     ·simp only[sI] at h1;subst h1;subst hi;rw[hu] at h2;cases h2;exact hn
     ·cases h1
    ·exact relDs_at hT h1 h2
   ·have:=R.len;rw[←R.heap] at this;show b.n≤((X.H++_).set id _).length;simp;omega
  ·exact⟨X,Shr.refl X,R⟩
 ·rename_i i i1 i2 ht;split
  ·rename_i e ds hi;split
   ·rename_i id off len cap hc;split
    ·rename_i e' t xs hr;rw[←R.heap] at hr hi;have hl:id<X.H.length:=lt_of_slot (by rw[hget_live.1 hr];simp);have hli:i<X.H.length:=lt_of_slot (by rw[hget_live.1 hi];simp);have hne:i≠id:=by
      intro h;subst h;rw[hi] at hr;cases hr
     by_cases hx:off+len≤xs.length
     ·have M1:=mv_mem R.mem (by rw[R.heap];exact R.len) hr hx;have hX:hget (mvX X id off t.size e' t ((xs.drop off).take len)).H i=some (.box e ds):=by
       rw[hget_live,mv_slot X hl,if_neg hne,if_neg (by omega)];exact hget_live.1 hi
      have hρi:(mvX X id off t.size e' t ((xs.drop off).take len)).ρ i=X.ρ i:=if_neg (by omega);have hrow:RelRow (mvX X id off t.size e' t ((xs.drop off).take len)) (.box e (ds.set c.cell (.own X.H.length 0 len none))) ((mvX X id off t.size e' t ((xs.drop off).take len)).ρ i):=by
       have h0:=R.mem.rows i _ hi;have h1:=M1.rows i _ hX;rw[hρi] at h1⊢;cases hp:X.ρ i with
       |none=>rw[hp] at h0;exact h0.elim
       |some l=>
        rw[hp] at h0 h1;obtain⟨cs,ty,g1,g2,g3,us,g4,g5,g6⟩:=h0;obtain⟨cs',ty',k1,k2,k3,us',k4,k5,k6⟩:=h1;have ec:cs'=cs:=by
         have k1':X.w.heap[l.b]? =_:=k1;rw[g1] at k1';injection k1' with k1'
         injection k1' with k1' _ _
         exact k1'.symm
        have eu:us'=us:=by rw[ec,g4] at k4;simpa using k4.symm
        subst eu;refine⟨cs',ty',k1,k2,k3,us',k4,?_,k6⟩;refine relDs_of_get (by simp[relDs_length k5]) ?_;intro j d v h1 h2;rw[List.getElem?_set] at h1;split at h1
        ·rename_i hj;split at h1
         ·simp only[sI] at h1;subst h1;subst hj;exact(own_mv R.mem hr (relDs_at g5 hc h2)).2
         ·cases h1
        ·exact relDs_at k5 h1 h2
      rw[←R.heap];refine⟨boxX (mvX X id off t.size e' t ((xs.drop off).take len)) i (.box e (ds.set c.cell (.own X.H.length 0 len none))),(shr_mv X hr).trans (shr_box _ hX),boxX_mem M1 hX hrow,(boxX_le hX).ds ((mv_le X hl e' t _).ds R.tmps),rfl,?_,R.defers⟩;have:=R.len;rw[←R.heap] at this;show b.n≤(((X.H++_).set id _).set i _).length;simp;omega
     ·exfalso;have h0:=R.mem.rows i _ hi;cases hp:X.ρ i with
      |none=>rw[hp] at h0;exact h0.elim
      |some l=>
       rw[hp] at h0;obtain⟨cs,ty,g1,g2,g3,us,g4,g5,g6⟩:=h0;obtain⟨v,hv⟩:∃v,us[c.cell]? =some v:=by
        have:=relDs_length g5;have h1:=(List.getElem?_eq_some_iff.1 hc).1;exact⟨us[c.cell]'(by omega),gQ _⟩
       exact hx (own_mv R.mem hr (relDs_at g5 hc hv)).1
    ·exact⟨X,Shr.refl X,R⟩
   ·exact⟨X,Shr.refl X,R⟩
  ·exact⟨X,Shr.refl X,R⟩
 ·exact⟨X,Shr.refl X,R⟩
theorem coe2_rel {s:St} {a:Act} (R:Rel b X s a) (c:Co):∃X',Shr X X'∧Rel b X' (coe2 c s) a:=by
 unfold coe2;split
 ·exact coe1_rel R c
 ·exact mv1_rel R c
theorem coes_rel:∀(cs:List Co) {X:Ctx} {s:St} {a:Act},Rel b X s a→∃X',Shr X X'∧Rel b X' (coes cs s) a
 | [],X,s,a,R=>⟨X,Shr.refl X,R⟩
 |c::cs,X,s,a,R=>by
  obtain⟨X1,h1,R1⟩:=coe2_rel R c;obtain⟨X2,h2,R2⟩:=coes_rel cs R1;exact⟨X2,h1.trans h2,R2⟩
theorem unf1_rel {s:St} {a:Act} (R:Rel b X s a) (id:Nat):∃X',Shr X X'∧Rel b X' (unf1 s id) a:=by
 unfold unf1;split
 ·rename_i k xs h hr;split
  ·rename_i xs' ws hu;rw[←R.heap] at hr hu⊢;obtain⟨X',M',L',hw,hS,hH,_,ids,rfl,_,_,hshr⟩:=mem_unf' R.mem (fun _ _ h=>h) hr hu;refine⟨X',hshr,M',L'.ds R.tmps,hH,?_,R.defers.le L'⟩;have:=R.len;rw[←R.heap] at this;simpa [setWrites_length] using this
  ·exact⟨X,Shr.refl X,R⟩
 ·exact⟨X,Shr.refl X,R⟩
theorem unfs_rel:∀(is:List Nat) {X:Ctx} {s:St} {a:Act},Rel b X s a→∃X',Shr X X'∧Rel b X' (unfs is s) a
 | [],X,s,a,R=>⟨X,Shr.refl X,R⟩
 |i::is,X,s,a,R=>by
  obtain⟨X1,h1,R1⟩:=unf1_rel R i;obtain⟨X2,h2,R2⟩:=unfs_rel is R1;exact⟨X2,h1.trans h2,R2⟩
theorem coeS_rel (cs:List Co) {X:Ctx} {s:St} {a:Act} (R:Rel b X s a):∃X',Shr X X'∧Rel b X' (coeS cs s) a:=by
 unfold coeS;split
 ·exact coes_rel cs R
 ·obtain⟨X1,h1,R1⟩:=coes_rel cs R;obtain⟨X2,h2,R2⟩:=unfs_rel (holeIds 0 (coes cs s).heap) R1;exact⟨X2,h1.trans h2,R2⟩
end
theorem Goes.coe {P:Program} {T:Goal P} {n:Nat} {k:List Item} {s:St} (cs:List Co) (hg:Goes P T n k (coeS cs s)):Goes P T n k s:=by
 intro b X a fr fs hr hb hd R;obtain⟨X1,⟨hw,_,_⟩,R1⟩:=coeS_rel cs R;have:=hg b X1 a fr fs hr hb hd R1;rw[hw] at this;exact this
def hC:Code→List Item→List (List Item)
 | .seq x y,k=>hC x (.code y::k)++hC y k
 | .cond _ x y,k=>hC x k++hC y k
 | .block id c,k=>hC c (.inBlock id::k)
 | .scope c,k=>hC c (.inScope c::k)
 | .loop c,k=>(.code c:: .inLoop c::k)::hC c (.inLoop c::k)
 |_,_=> []
def KK (c:Code) (i:Nat):List Item:=(hC c []).getD i []
def codeSim:Code→Code→Bool
 | .skip,.skip=>true
 | .label _,.label _=>true
 | .region i _ _,.region j _ _=>i==j
 | .seq _ _,.seq _ _=>true
 | .cond _ _ _,.cond _ _ _=>true
 | .block i _,.block j _=>i==j
 | .loop _,.loop _=>true
 | .exit i,.exit j=>i==j
 | .goto i,.goto j=>true
 | .scope _,.scope _=>true
 | .ret,.ret=>true
 | .rangeFunc _ _ _ _,.rangeFunc _ _ _ _=>true
 |_,_=>false
def headSim:List Item→List Item→Bool
 | [],[]=>true
 | .code a::_,.code b::_=>codeSim a b
 | .code _::_,_=>false
 |_,.code _::_=>false
 | [],_=>false
 |_,[]=>false
 |_,_=>true
def cutAt (K:Nat→List Item) (h:Hint) (k:List Item):Option Nat:=
 match h with
 | .cut i=>if headSim k (K i)&&k.length==(K i).length then some i else none
 |_=>none
def vcX (P:Program) (sp:Sp) (n:Nat) (K:Nat→List Item) (keep:Nat→List Nat) (co:Nat→List Co) (E:Option Code→St→Prop) (G:Nat→St→Prop):Nat→List Item→Hint→St→Prop
 |0,_,_,_=>Stuck 2000
 |f+1,k,h,s=>
  match cutAt K h k with
  |some i=>match normV n (keep i) (coeS (co i) s) with
   |some s'=>SameK k (K i)∧G i s'
   |none=>Stuck 2001
  |none=>match k with
   | []=>E none s
   | .code c::k=>match c with
    | .skip=>vcX P sp n K keep co E G f k h s
    | .label _=>vcX P sp n K keep co E G f k h s
    | .region _ ops draw=>vcR P sp ops draw h s (fun h' s'=>vcX P sp n K keep co E G f k h' s')
    | .seq x y=>vcX P sp n K keep co E G f (.code x:: .code y::k) h s
    | .cond c x y=>match evalD s.tmps c with
     | .v (.bool b)=>match h with
      | .t h=>b=true∧vcX P sp n K keep co E G f (.code x::k) h s
      | .f h=>b=false∧vcX P sp n K keep co E G f (.code y::k) h s
      | .fork h1 h2=>(b=true→vcX P sp n K keep co E G f (.code x::k) h1 s)∧(b=false→vcX P sp n K keep co E G f (.code y::k) h2 s)
      |_=>Stuck 2003
     |_=>Stuck 2004
    | .block id c=>vcX P sp n K keep co E G f (.code c:: .inBlock id::k) h s
    | .loop c=>match h with
     | .go h=>vcX P sp n K keep co E G f (.code c:: .inLoop c::k) h s
     | .hd i=>match normV n (keep i) (coeS (co i) s) with
      |some s'=>SameK (.code c:: .inLoop c::k) (K i)∧G i s'
      |none=>Stuck 2001
     |_=>Stuck 2005
    | .exit id=>match exitTo id k with
     |some k'=>vcX P sp n K keep co E G f k' h s
     |none=>E (some (.exit id)) s
    | .goto l=>match gotoIn l k with
     |some k'=>vcX P sp n K keep co E G f k' h s
     |none=>Stuck 2007
    | .scope c=>vcX P sp n K keep co E G f (.code c:: .inScope c::k) h s
    | .ret=>E (some .ret) s
    |_=>Stuck 2008
   | .inBlock _::k=>vcX P sp n K keep co E G f k h s
   | .inScope _::k=>vcX P sp n K keep co E G f k h s
   | .inLoop c::k=>match h with
    | .go h=>vcX P sp n K keep co E G f (.code c:: .inLoop c::k) h s
    | .hd i=>match normV n (keep i) (coeS (co i) s) with
     |some s'=>SameK (.code c:: .inLoop c::k) (K i)∧G i s'
     |none=>Stuck 2001
    |_=>Stuck 2005
   |_=>Stuck 2009
def endFn (co:Nat→List Co) (fin:St→Option (D×List (Option Row)×List Row)) (R:D×List (Option Row)×List Row→Prop) (j:Option Code) (s:St):Prop:=
 match j with
 |some (.exit _)=>Stuck 2006
 |_=>match fin (coeS (co 99) s) with
  |some r=>R r
  |none=>Stuck 2002
def vcK (P:Program) (sp:Sp) (n:Nat) (K:Nat→List Item) (keep:Nat→List Nat) (co:Nat→List Co) (fin:St→Option (D×List (Option Row)×List Row)) (G:Nat→St→Prop) (R:D×List (Option Row)×List Row→Prop) (f:Nat) (k:List Item) (h:Hint) (s:St):Prop:=
 vcX P sp n K keep co (endFn co fin R) G f k h s
theorem Goes.normV {P:Program} {T:Goal P} {n:Nat} {k:List Item} {s s':St} {keep:List Nat} (h:normV n keep s=some s') (hg:Goes P T n k s'):Goes P T n k s:=by
 intro b X a fr cs hr hb hd R;obtain⟨X1,⟨hw,_,_⟩,R1⟩:=normV_rel R hb h;have:=hg b X1 a fr cs hr hb hd R1;rw[hw] at this;exact this
theorem vcX_sound {P:Program} {T:Goal P} {sp:Sp} {n:Nat} {K:Nat→List Item} {keep:Nat→List Nat} {co:Nat→List Co} {E:Option Code→St→Prop} {G:Nat→St→Prop}
  (hm:P.follows .mixedOrders=true) (hG:∀i s,G i s→Goes P T n (K i) s) (h0:∀s,E none s→Goes P T n [] s) (h1:∀k s,E (some .ret) s→Goes P T n (.code .ret::k) s)
  (h2:∀id k s,exitTo id k=none→E (some (.exit id)) s→Goes P T n (.code (.exit id)::k) s):∀(f:Nat) (k:List Item) (h:Hint) (s:St),vcX P sp n K keep co E G f k h s→Goes P T n k s:=by
 intro f;induction f with
 |zero=>intro k h s hv;exact hv.elim
 |succ f ih=>
  intro k h s hv;have stop:∀{k:List Item} {i:Nat} {s':St},normV n (keep i) (coeS (co i) s)=some s'→SameK k (K i)∧G i s'→Goes P T n k s:=by
   intro k i s' hn hs;have e:k=K i:=hs.1;subst e;exact .coe (co i) (.normV hn (hG i s' hs.2))
  unfold vcX at hv;split at hv
  ·split at hv
   ·rename_i s' hn;exact stop hn hv
   ·exact hv.elim
  ·split at hv
   ·exact h0 _ hv
   ·split at hv
    ·exact .step (fun _ _ _ _=>stepR_skip) (ih _ _ _ hv)
    ·exact .step (fun _ _ _ _=>stepR_label) (ih _ _ _ hv)
    ·obtain⟨asm,s',ps,h',hr,hp,hK⟩:=vcR_sound hv;exact .region hm hr hp (ih _ _ _ hK)
    ·exact .step (fun _ _ _ _=>stepR_seq) (ih _ _ _ hv)
    ·split at hv
     ·rename_i b hb;split at hv
      ·obtain⟨rfl,hv⟩:=hv;exact .cond hb (ih _ _ _ hv)
      ·obtain⟨rfl,hv⟩:=hv;exact .cond hb (ih _ _ _ hv)
      ·cases b with
       |true=>exact .cond hb (ih _ _ _ (hv.1 rfl))
       |false=>exact .cond hb (ih _ _ _ (hv.2 rfl))
      ·exact hv.elim
     ·exact hv.elim
    ·exact .step (fun _ _ _ _=>stepR_block) (ih _ _ _ hv)
    ·split at hv
     ·exact .step (fun _ _ _ _=>stepR_loop) (ih _ _ _ hv)
     ·split at hv
      ·rename_i s' hn;exact .step (fun _ _ _ _=>stepR_loop) (stop hn hv)
      ·exact hv.elim
     ·exact hv.elim
    ·split at hv
     ·rename_i k2 he;exact .step (fun _ _ _ _=>stepR_exit he) (ih _ _ _ hv)
     ·rename_i he;exact h2 _ _ _ he hv
    ·split at hv
     ·rename_i k2 he;exact .step (fun _ _ _ _=>stepR_goto he) (ih _ _ _ hv)
     ·exact hv.elim
    ·exact .step (fun _ _ _ _=>stepR_scope) (ih _ _ _ hv)
    ·exact h1 _ _ hv
    ·exact hv.elim
   ·exact .step (fun _ _ _ _=>stepR_inBlock) (ih _ _ _ hv)
   ·exact .step (fun _ _ _ _=>stepR_inScope) (ih _ _ _ hv)
   ·split at hv
    ·exact .step (fun _ _ _ _=>stepR_inLoop) (ih _ _ _ hv)
    ·split at hv
     ·rename_i s' hn;exact .step (fun _ _ _ _=>stepR_inLoop) (stop hn hv)
     ·exact hv.elim
    ·exact hv.elim
   ·exact hv.elim
theorem vcK_sound {P:Program} {sp:Sp} {n:Nat} {K:Nat→List Item} {keep:Nat→List Nat} {co:Nat→List Co} {fin:St→Option (D×List (Option Row)×List Row)} {G:Nat→St→Prop} {R:D×List (Option Row)×List Row→Prop} {Φ:St→Prop}
  (hm:P.follows .mixedOrders=true) (hG:∀i s,G i s→Gets P n (K i) s Φ) (hF:∀s r,fin s=some r→R r→Φ s) (f:Nat) (k:List Item) (h:Hint) (s:St) (hv:vcK P sp n K keep co fin G R f k h s):Gets P n k s Φ:=by
 have hE:∀s,(match fin (coeS (co 99) s) with|some r=>R r|none=>Stuck 2002)→Φ (coeS (co 99) s):=by
  intro s hv;split at hv
  ·rename_i r hr;exact hF _ r hr hv
  ·exact hv.elim
 exact vcX_sound hm hG (fun s h=> .coe (co 99) (Gets.nil (hE s h))) (fun k s h=> .coe (co 99) (Gets.ret (hE s h))) (fun id k s _ h=>h.elim) f k h s hv
structure GetsK (P:Program) (rs:List ResultVar) (how:List (Option Ty)) (K:Nat→List Item) (n:Nat) (r:D×List (Option Row)×List Row) (i:Nat) (s:St):Prop where
 out:Gets P n (K i) s (Ends P n rs how r)
theorem gets_vc {P:Program} {rs:List ResultVar} {how:List (Option Ty)} {K:Nat→List Item} {n:Nat} {r:D×List (Option Row)×List Row} {i:Nat} {s:St} (sp:Sp) (keep:Nat→List Nat) (co:Nat→List Co) (f:Nat) (h:Hint) {V:(Nat→St→Prop)→(D×List (Option Row)×List Row→Prop)→Prop}
  (hm:P.follows .mixedOrders=true) (hv:∀G R,vcK P sp n K keep co (finS P rs n how) G R f (K i) h s=V G R) (hV:V (GetsK P rs how K n r) (fun x=>x=r)):GetsK P rs how K n r i s:=by
 rw[←hv] at hV;exact⟨vcK_sound hm (fun _ _ h=>h.out) (fun s r' h e=>by subst e;exact h) f _ _ _ hV⟩
theorem con_vc {P:Program} {f:FuncId} {fn:Func} {c:Code} {pre:List Row} {args:List D} {val:D} {post:List (Option Row)} {allocs:List Row} {how:List (Option Ty)} {K:Nat→List Item} (sp:Sp) (keep:Nat→List Nat) (co:Nat→List Co) (fu:Nat) (h:Hint)
  {V:(Nat→St→Prop)→(D×List (Option Row)×List Row→Prop)→Prop} (hm:P.follows .mixedOrders=true)
  (hf:P.funcs[f]? =some fn) (hname:(fn.name== "runtime.NumGoroutine")=false) (hb:fn.body=some c)
  (hv:∀G R,vcK P sp pre.length K keep co (finS P fn.results.toList pre.length how) G R fu [.code c] h (st0 fn.ntmps pre args)=V G R)
  (hV:V (GetsK P fn.results.toList how K pre.length (val,post,allocs)) (fun x=>x=(val,post,allocs))):Con P f pre args val post allocs:=by
 refine con_of hf hname hb (how:=how) ?_;rw[←hv] at hV;exact vcK_sound hm (fun _ _ h=>h.out) (fun s r' h e=>by subst e;exact h) fu _ _ _ hV
theorem relDs_vals {X:Ctx}:∀{vs us:List Value},RelDs X (vs.map .v) us→us=vs
 | [],us,h=>by simpa only[List.map_nil,RelDs] using h
 |v::vs,us,h=>by
  simp only[List.map_cons,RelDs,RelD] at h;obtain⟨u,us',rfl,rfl,h2⟩:=h;rw[relDs_vals h2]
theorem con_frz {P:Program} {f g:FuncId} {args:List D} {e:TypeId} {cs:List Value} (h:Con P f [] args (.fn g [.ptr 0 0 0]) [] [.box e (cs.map .v)]):Con P f [] args (.fn g [.rptr (cs.map .v)]) [] []:=by
 refine⟨h.fn,fun w ρ S vs M hargs=>(h.run w ρ S vs M hargs).mono ?_⟩;rintro ex w' ⟨v,ρ',S',h1,h2,h3⟩
 have h0:hget (List.map slotOf []++List.map Slot.live [.box e (cs.map .v)]) 0=some (.box e (cs.map .v)):=rfl;simp only[RelD,RelDs] at h3;obtain⟨us,h4,u,us',rfl,h5,rfl⟩:=h3;obtain⟨a,us2,h6,h7,h8⟩:=lent_box (soft:=[0]) h2 (by simp) h0 (show RelD _ (.ptr 0 0 0) u by simp only[RelD];exact h5);obtain⟨M2,_⟩:=mem_kill h2 h0 (softS ⟨ρ',List.map slotOf []++List.map Slot.live [.box e (cs.map .v)],S',w'⟩ [0]) (fun k hk=> .inl hk) (fun k hk=>by
  rcases hk with hk|⟨id,hid,_,l,hl,hb⟩
  ·exact .inl hk
  ·simp only[List.mem_singleton] at hid;subst hid;exact .inr ⟨l,hl,hb⟩)
 have hp:=mem_pack M2 (n:=0) rfl (ids:=[]) (ds:=[]) rfl;rw[List.drop_zero] at h7;have e2:=relDs_vals h7;subst e2;refine⟨v,_,_,h1,hp,?_⟩;simp only[RelD,RelDs];exact⟨[u],h4,u,[],rfl,⟨a,us2,h6,relDs_v us2,h8⟩,rfl⟩
theorem hmG:Tryd.prog.follows .mixedOrders=true:=by kernel_rfl
theorem wrG {n:Int} (h1: -9223372036854775808≤n) (h2:n≤9223372036854775807):IntKind.i64.wrap n=n:=by
 rw[IntKind.wrap_i64];omega
theorem oo:(∀{n:Int},-9223372036854775808≤n→n≤9223372036854775807→IntKind.i64.wrap n=n)∧(∀(a:List Item),SameK a a↔True)∧(∀(p:Prop),(True∧p)=p)∧(∀(p:Prop),(p∧True)=p)∧(∀{p:Prop} [inst:Decidable p],(decide p=true)=p)∧(∀{p:Prop} {x:Decidable p},decide p=false↔¬p)∧((¬False)=True)∧((false=true)=False)∧((true=false)=False)∧(∀(p:Prop),(False→p)=True)∧(∀(p:Prop),(True→p)=p)∧(∀(b:Bool),(¬b=true)=(b=false))∧(∀{a b:Bool},(!a)=b↔a= !b)∧((!true)=false)∧((!false)=true)∧(∀{a b:Int},¬a<b↔b≤a)∧(∀{a b:Int},¬a≤b↔b<a):=
 ⟨wrG,sameK_iff,true_and,and_true,decide_eq_true_eq,decide_eq_false_iff_not,not_false_eq_true,Bool.false_eq_true,Bool.true_eq_false,false_implies,true_implies,Bool.not_eq_true,Bool.not_eq_eq_eq_not,Bool.not_true,Bool.not_false,Int.not_lt,Int.not_le⟩
theorem oop.{u}:(∀{α:Type u} [inst:BEq α] [LawfulBEq α] {a b:α},(a==b)=true↔a=b)∧(∀{α:Type u} [inst:BEq α] [LawfulBEq α] {a b:α},(a !=b)=true↔a≠b)∧(∀{α:Type u} [inst:BEq α] [LawfulBEq α] {a b:α},(a==b)=false↔a≠b)∧(∀{α:Type u} [inst:BEq α] [LawfulBEq α] {a b:α},(a !=b)=false↔a=b)∧(∀{α:Type u} [inst:LT α] {x y:α},x>y↔y<x)∧(∀{α:Type u} [inst:LE α] {x y:α},x≥y↔y≤x):=
 ⟨beq_iff_eq,bne_iff_ne,beq_eq_false_iff_ne,bne_eq_false_iff_eq,gt_iff_lt,ge_iff_le⟩
structure Gr where
 h:Int
 w:Int
 B:List Bool
 R:List Bool
 L:List Bool
 deriving DecidableEq
abbrev gG (g:Gr) (r:List D):List D:=vi g.h::vi g.w::sL .bool g.B::sL .bool g.R::sL .bool g.L::r
noncomputable def bd (f:Func):Code:=f.body.getD .skip
abbrev tI:Ty:= .int .i64
abbrev tU:Ty:= .int .u64
abbrev tB:Ty:= .bool
abbrev tS:Ty:=tI.prod (tB.prod tI.sl)
abbrev tQ:Ty:=tI.prod tI
abbrev p0:D:= .ptr 0 0 0
abbrev nD:D:= .v (.slice none 0 0)
abbrev cP:=Con Tryd.prog
abbrev rM:=roomy Tryd.prog
abbrev sK (c:Code) (i:Nat):Prop:=SameK (KK c i) (KK c i)
abbrev GT:=Nat→St→Prop
abbrev RT:=D×List (Option Row)×List Row→Prop
abbrev vE (a b:Int):Prop:=Value.int .i64 a=Value.int .i64 b
abbrev gS (g a:Gr) (p:Prop):Prop:=vE g.h a.h∧vE g.w a.w∧g.B=a.B∧g.R=a.R∧g.L=a.L∧p
theorem oq:(∀{α:Type} (a b:α),(a≠b)=¬a=b)∧(∀k,Ty.dflt (.int k)=(0:Int))∧(Ty.dflt .bool=false)∧(∀t,Ty.dflt (.sl t)=([]:List t.El))∧(∀a b,Ty.dflt (.prod a b)=(a.dflt,b.dflt)):=
 ⟨fun _ _=>rfl,fun _=>rfl,rfl,fun _=>rfl,fun _ _=>rfl⟩
def slB (xs:List Bool):D:=sL .bool xs
def slI (xs:List Int):D:=sL (.int .i64) xs
def Gr.d (g:Gr):D:= .agg (gG g [])
def bAt (xs:List Bool) (i:Int):Bool:=xs.getD i.toNat false
def sideB (n:Int):Bool:=decide (1≤n)&&decide (n≤16)
def barred (g:Gr) (i:Int):Bool:=
 (bAt g.R i&&(bAt g.B i||decide (i%g.w=g.w-1)||bAt g.B (i+1)))||(bAt g.L i&&(bAt g.B i||decide (i/g.w=g.h-1)||bAt g.B (i+g.w)))
def anyBar (g:Gr):Nat→Int→Bool
 |0,_=>false
 |m+1,i=>barred g i||anyBar g m (i+1)
def sizeB3 (g:Gr):Bool:=decide ((g.B.length:Int)=g.h*g.w)&&decide ((g.R.length:Int)=g.h*g.w)&&decide ((g.L.length:Int)=g.h*g.w)
def checkF (g:Gr):Int:=
 if sideB g.h&&sideB g.w then if sizeB3 g then if anyBar g (g.h*g.w).toNat 0 then 52 else 0 else 51 else 50
def openF (g:Gr) (i:Int):Bool:=(checkF g==0)&&decide (0≤i)&&decide (i<g.h*g.w)&& !bAt g.B i
def stepTo (g:Gr) (ok:Bool) (j:Int):Int×Bool:=if ok&& !bAt g.B j then(j,true) else(0,false)
def stepIn (g:Gr) (i way:Int):Int×Bool:=
 if way=0 then stepTo g (decide (i%g.w<g.w-1)&& !bAt g.R i) (i+1)
 else if way=1 then stepTo g (decide (i/g.w<g.h-1)&& !bAt g.L i) (i+g.w)
 else if way=2 then stepTo g (decide (0<i%g.w)&& !bAt g.R (i-1)) (i-1)
 else if way=3 then stepTo g (decide (0<i/g.w)&& !bAt g.L (i-g.w)) (i-g.w) else(0,false)
def stepF (g:Gr) (i way:Int):Int×Bool:=if openF g i then stepIn g i way else(0,false)
def nearFrom (g:Gr) (i:Int):Nat→Int→List Int
 |0,_=> []
 |m+1,way=>(if(stepIn g i way).2 then [(stepIn g i way).1] else [])++nearFrom g i m (way+1)
def nearF (g:Gr) (i:Int):List Int:=if openF g i then nearFrom g i 4 0 else []
def grOwn (n:Nat) (h w:Int) (a b c:Nat) (k:Nat→Option Nat):D:= .agg [vi h,vi w,.own n 0 a (k a),.own (n+1) 0 b (k b),.own (n+2) 0 c (k c)]
def withG (rd:Nat→Option Row) (h w:Int) (b r l:D) (k:Gr→List Nat→Option Ann):Option Ann:=
 match slC rd .bool [b],slC rd .bool [r],slC rd .bool [l] with
 |some B,some R,some L=>k ⟨h,w,B,R,L⟩ (refsDs [b,r,l])
 |_,_,_=>none
def nilG:D:= .agg [vi 0,vi 0,.v (.slice none 0 0),.v (.slice none 0 0),.v (.slice none 0 0)]
def with2 (t:Ty) (rd:Nat→Option Row) (a b:D) (k:List t.El→List t.El→List Nat→Option Ann):Option Ann:=
 match slC rd t [a],slC rd t [b] with
 |some A,some B=>k A B (refsDs [a,b])
 |_,_=>none
def spG (ok:Bool):Sp:=fun f args rd=>match f,args with
 |84,[.v (.int _ n)]=>some {f:=84,args:=[.v (.int .i64 n)],val:= .v (.bool (sideB n))}
 |115,[.v (.int _ n)]=>some {f:=115,args:=[.v (.int .i64 n)],val:= .v (.bool (sideB n))}
 |44,[.agg [.v (.int _ h),.v (.int _ w),b,r,l]]=>withG rd h w b r l fun g ls=>some {f:=44,args:=[g.d],val:= .v (.int .i64 (checkF g)),lent:=ls}
 |80,[.agg [.v (.int _ h),.v (.int _ w),b,r,l]]=>withG rd h w b r l fun g ls=>some {f:=80,args:=[g.d],val:= .v (.int .i64 (checkF g)),lent:=ls}
 |116,[.agg [.v (.int _ h),.v (.int _ w),b,r,l]]=>withG rd h w b r l fun g ls=>some {f:=116,args:=[g.d],val:= .v (.bool (anyBar g (g.h*g.w).toNat 0)),lent:=ls}
 |113,[.agg [.v (.int _ h),.v (.int _ w),b,r,l],.v (.int _ i)]=>withG rd h w b r l fun g ls=>some {f:=113,args:=[g.d,.v (.int .i64 i)],val:= .v (.bool (decide (0≤i)&&decide (i< (g.B.length:Int))&& !bAt g.B i)),lent:=ls}
 |78,[.agg [.v (.int _ h),.v (.int _ w),b,r,l],.v (.int _ i)]=>withG rd h w b r l fun g ls=>some {f:=78,args:=[g.d,.v (.int .i64 i)],val:= .v (.bool (openF g i)),lent:=ls}
 |142,[.agg [.v (.int _ h),.v (.int _ w),b,r,l],.v (.int _ i)]=>withG rd h w b r l fun g ls=>some {f:=142,args:=[g.d,.v (.int .i64 i)],val:= .v (.bool (openF g i)),lent:=ls}
 |114,[]=>some {f:=114,args:=[],val:= .agg ([0,1,1,0,0,-1,-1,0].map fun n=> .v (.int .i64 n))}
 |79,[.agg [.v (.int _ h),.v (.int _ w),b,r,l],.v (.int _ i),.v (.int _ y)]=>withG rd h w b r l fun g ls=>some {f:=79,args:=[g.d,.v (.int .i64 i),.v (.int .i64 y)],val:= .tup [.v (.int .i64 (stepIn g i y).1),.v (.bool (stepIn g i y).2)],lent:=ls}
 |37,[.agg [.v (.int _ h),.v (.int _ w),b,r,l],.v (.int _ i),.v (.int _ y)]=>withG rd h w b r l fun g ls=>some {f:=37,args:=[g.d,.v (.int .i64 i),.v (.int .i64 y)],val:= .tup [.v (.int .i64 (stepF g i y).1),.v (.bool (stepF g i y).2)],lent:=ls}
 |117,[.agg [.v (.int _ h),.v (.int _ w),b,r,l],.v (.int _ i),.v (.int _ y)]=>withG rd h w b r l fun g ls=>some {f:=117,args:=[g.d,.v (.int .i64 i),.v (.int .i64 y)],val:= .tup [.v (.int .i64 (stepF g i y).1),.v (.bool (stepF g i y).2)],lent:=ls}
 |83,[a,b]=>with2 .bool rd a b fun A B ls=>some {f:=83,args:=[slB A,slB B],val:= .v (.bool (decide (A=B))),lent:=ls}
 |23,[a,b]=>with2 (.int .i64) rd a b fun A B ls=>some {f:=23,args:=[slI A,slI B],val:= .v (.bool (decide (A=B))),lent:=ls}
 |43,[.agg [.v (.int _ h),.v (.int _ w),b,r,l],.agg [.v (.int _ h'),.v (.int _ w'),b',r',l']]=>withG rd h w b r l fun g ls=>withG rd h' w' b' r' l' fun g' ls'=>some {f:=43,args:=[g.d,g'.d],val:= .v (.bool (decide (g=g'))),lent:=ls++ls'}
 |118,[.ptr i _ _,.ptr j _ _]=>match rd i,rd j with
  |some (.box _ [.v (.int _ h)]),some (.box _ [.v (.int _ w)])=>some {f:=118,args:=[.rptr [.v (.int .i64 h)],.rptr [.v (.int .i64 w)]],val:= .own 0 0 (h*w).toNat (some (h*w).toNat),allocs:=[.data 4 .bool (List.replicate (h*w).toNat false)],lent:=[i,j]}
  |_,_=>none
 |86,[.v (.int _ h),.v (.int _ w)]=>match ok with
  |true=>some {f:=86,args:=[.v (.int .i64 h),.v (.int .i64 w)],val:= .tup [grOwn 0 h w (h*w).toNat (h*w).toNat (h*w).toNat some,.v (.int .i64 0)],allocs:=List.replicate 3 (.data 4 .bool (List.replicate (h*w).toNat false))}
  |false=>some {f:=86,args:=[.v (.int .i64 h),.v (.int .i64 w)],val:= .tup [nilG,.v (.int .i64 50)]}
 |_,_=>none
noncomputable def g80:=bd Tryd.f84
noncomputable def g82:=bd Tryd.f115
noncomputable def g43:=bd Tryd.f44
noncomputable def g44:=bd Tryd.f80
noncomputable def g87:=bd Tryd.f116
noncomputable def g88:=bd Tryd.f113
noncomputable def g45:=bd Tryd.f78
noncomputable def g46:=bd Tryd.f142
noncomputable def g119:=bd Tryd.f114
noncomputable def g85:=bd Tryd.f79
noncomputable def g37:=bd Tryd.f37
noncomputable def g38:=bd Tryd.f117
noncomputable def g41:=bd Tryd.f23
set_option maxRecDepth 100000
theorem size3 {g:Gr} (h:sizeB3 g=true):(g.B.length:Int)=g.h*g.w∧(g.R.length:Int)=g.h*g.w∧(g.L.length:Int)=g.h*g.w:=by
 simpa [sizeB3,and_assoc] using h
theorem side_iff {n:Int}:sideB n=true↔1≤n∧n≤16:=by simp[sideB]
theorem hw_in {h w:Int} (h1:sideB h=true) (w1:sideB w=true):1≤h*w∧h*w≤256:=by
 have a:=side_iff.1 h1;have b:=side_iff.1 w1;constructor
 ·have:=Int.mul_le_mul a.1 b.1 (by omega) (by omega);simpa using this
 ·have:=Int.mul_le_mul a.2 b.2 (by omega) (by omega);simpa using this
theorem hw_wrap {h w:Int} (h1:sideB h=true) (w1:sideB w=true):IntKind.i64.wrap (h*w)=h*w:=by
 have:=hw_in h1 w1;exact wrG (by omega) (by omega)
theorem row_in {h w i:Int} (w1:1≤w) (i0:0≤i) (i1:i<h*w):0≤i/w∧i/w<h∧0≤i%w∧i%w<w∧i/w*w+i%w=i:=
 ⟨Int.ediv_nonneg i0 (by omega),Int.ediv_lt_of_lt_mul (by omega) i1,Int.emod_nonneg _ (by omega),Int.emod_lt_of_pos _ (by omega),Int.ediv_mul_add_emod i w⟩
theorem right_in {h w i:Int} (w1:1≤w) (i0:0≤i) (i1:i<h*w):¬i%w=w-1→i+1<h*w:=by
 intro hne;obtain⟨a,b,c,d,e⟩:=row_in w1 i0 i1;have:=Int.mul_le_mul_of_nonneg_right (show i/w+1≤h by omega) (show 0≤w by omega);rw[Int.add_mul,Int.one_mul] at this;omega
theorem below_in {h w i:Int} (w1:1≤w) (i0:0≤i) (i1:i<h*w):¬i/w=h-1→i+w<h*w:=by
 intro hne;obtain⟨a,b,c,d,e⟩:=row_in w1 i0 i1;have:=Int.mul_le_mul_of_nonneg_right (show i/w+2≤h by omega) (show 0≤w by omega);rw[Int.add_mul] at this;omega
theorem d80 (n:Int):Con Tryd.prog 84 [] [vi n] (vb (sideB n)) [] []:=by
 refine con_vc (how:=[none]) (c:=g80) (K:=(KK g80)) (spG true) (fun _=> []) (fun _=> []) 400 (.fork .stop .stop) (V:=fun G R=>(decide ((1:Int)≤n)=true→R (vb (decide (n≤(16:Int))),[],[]))∧(decide ((1:Int)≤n)=false→R (vb false,[],[]))) hmG Tryd.func84 (by kernel_rfl) (by kernel_rfl) (fun G R=>by kernel_rfl) ?_;dsimp only;repeat' (first|refine And.intro ?_ ?_|intro _)
 all_goals (simp_all[sideB];try omega)
theorem d82 (n:Int):Con Tryd.prog 115 [] [vi n] (vb (sideB n)) [] []:=by
 refine con_vc (how:=[none]) (c:=g82) (K:=(KK g82)) (spG true) (fun _=> []) (fun _=> []) 400 (.fork .stop .stop) (V:=fun G R=>(decide (n≥(1:Int))=true→R (vb (decide (n≤(16:Int))),[],[]))∧(decide (n≥(1:Int))=false→R (vb false,[],[]))) hmG Tryd.func115 (by kernel_rfl) (by kernel_rfl) (fun G R=>by kernel_rfl) ?_;dsimp only;repeat' (first|refine And.intro ?_ ?_|intro _)
 all_goals (simp_all[sideB];try omega)
def vq1 (g:Gr) (i:Int) (G:GT) (R:RT):Prop:=let yy0:=(stOf 109 [1,43,44,45] [p0,sL tB g.B,vi ↑g.B.length,vi (IntKind.i64.wrap (i+1))] [lB 46 (gG g [])]);let yy1:=(Value.int .i64 (52:Int));let yy2:=(IntKind.i64.wrap (i.tdiv g.w)==IntKind.i64.wrap (g.h-1));let yy3:=(g.B.getD (IntKind.i64.wrap (i+g.w)).toNat tB.dflt=false→sK g43 0∧G 0 yy0);let yy4:=(g.L.getD i.toNat tB.dflt=false→false=false∧sK g43 0∧G 0 yy0);(decide (i<↑g.B.length)=true→0≤i∧i<↑g.B.length∧g.w≠(0:Int)∧g.w≠(0:Int)∧0≤i∧i<↑g.R.length∧(g.R.getD i.toNat tB.dflt=true→(g.B.getD i.toNat tB.dflt=true→true=true∧true=true∧true=true∧R (D.v yy1,[],[]))∧(g.B.getD i.toNat tB.dflt=false→((i.tmod g.w==IntKind.i64.wrap (g.w-1))=true→true=true∧true=true∧R (D.v yy1,[],[]))∧((i.tmod g.w==IntKind.i64.wrap (g.w-1))=false→(0:Int)≤IntKind.i64.wrap (i+1)∧IntKind.i64.wrap (i+1)<↑g.B.length∧(g.B.getD (IntKind.i64.wrap (i+1)).toNat tB.dflt=true→true=true∧R (D.v yy1,[],[]))∧(g.B.getD (IntKind.i64.wrap (i+1)).toNat tB.dflt=false→0≤i∧i<↑g.L.length∧(g.L.getD i.toNat tB.dflt=true→(g.B.getD i.toNat tB.dflt=true→true=true∧true=true∧R (D.v yy1,[],[]))∧(g.B.getD i.toNat tB.dflt=false→(yy2=true→true=true∧R (D.v yy1,[],[]))∧(yy2=false→(0:Int)≤IntKind.i64.wrap (i+g.w)∧IntKind.i64.wrap (i+g.w)<↑g.B.length∧(g.B.getD (IntKind.i64.wrap (i+g.w)).toNat tB.dflt=true→R (D.v yy1,[],[]))∧yy3)))∧yy4))))∧(g.R.getD i.toNat tB.dflt=false→false=false∧0≤i∧i<↑g.L.length∧(g.L.getD i.toNat tB.dflt=true→(g.B.getD i.toNat tB.dflt=true→true=true∧true=true∧R (D.v yy1,[],[]))∧(g.B.getD i.toNat tB.dflt=false→(yy2=true→true=true∧R (D.v yy1,[],[]))∧(yy2=false→(0:Int)≤IntKind.i64.wrap (i+g.w)∧IntKind.i64.wrap (i+g.w)<↑g.B.length∧(g.B.getD (IntKind.i64.wrap (i+g.w)).toNat tB.dflt=true→R (D.v yy1,[],[]))∧yy3)))∧yy4))∧(decide (i<↑g.B.length)=false→R (vi 0,[],[]))
theorem e43 (g:Gr) (h1:sideB g.h=true) (w1:sideB g.w=true) (sz:sizeB3 g=true) (m:Nat):∀(i:Int) (b:Bool),0≤i→i+m=g.h*g.w→anyBar g m i=b→GetsK Tryd.prog Tryd.f44.results.toList [none] (KK g43) 0 (vi (if b then 52 else 0),[],[]) 0 (stOf 109 [1,43,44,45] [.ptr 0 0 0,sL .bool g.B,vi g.B.length,vi i] [lB 46 (gG g [])]):=by
 obtain⟨s1,s2,s3⟩:=size3 sz;have hw:=hw_in h1 w1;have hh:=side_iff.1 h1;have ww:=side_iff.1 w1;have ew:=hw_wrap h1 w1;induction m with
 |zero=>
  intro i b i0 im hb;refine gets_vc (spG true) (fun _=> [1,43,44,45]) (fun _=> []) 400 (.fork (.fork (.fork (.t (.t (.t .stop))) (.fork (.t (.t .stop)) (.fork (.t .stop) (.fork (.fork (.t (.t .stop)) (.fork (.t .stop) (.fork .stop (.hd 0)))) (.f (.hd 0)))))) (.f (.fork (.fork (.t (.t .stop)) (.fork (.t .stop) (.fork .stop (.hd 0)))) (.f (.hd 0))))) .stop) (V:=vq1 g i) hmG (fun G R=>by kernel_rfl) ?_;unfold vq1;try dsimp only
  simp (disch:=omega) only[ew,oo,oop,oq,reduceCtorEq];repeat' first|refine And.intro ?_ ?_|intro _|omega|(simp[←hb,anyBar];done)
 |succ m ih=>
  intro i b i0 im hb;have e1:i.tmod g.w=i%g.w:=Int.tmod_eq_emod_of_nonneg i0;have e2:i.tdiv g.w=i/g.w:=Int.tdiv_eq_ediv_of_nonneg i0;have e3:0≤i/g.w∧i/g.w≤i:=⟨Int.ediv_nonneg i0 (by omega),Int.ediv_le_self _ i0⟩;have e4:=right_in (h:=g.h) (w:=g.w) (i:=i) (by omega) i0 (by omega);have e5:=below_in (h:=g.h) (w:=g.w) (i:=i) (by omega) i0 (by omega);refine gets_vc (spG true) (fun _=> [1,43,44,45]) (fun _=> []) 400 (.fork (.fork (.fork (.t (.t (.t .stop))) (.fork (.t (.t .stop)) (.fork (.t .stop) (.fork (.fork (.t (.t .stop)) (.fork (.t .stop) (.fork .stop (.hd 0)))) (.f (.hd 0)))))) (.f (.fork (.fork (.t (.t .stop)) (.fork (.t .stop) (.fork .stop (.hd 0)))) (.f (.hd 0))))) .stop) (V:=vq1 g i) hmG (fun G R=>by kernel_rfl) ?_;unfold vq1;try dsimp only
  simp (disch:=omega) only[e1,e2,ew,oo,oop,oq,reduceCtorEq];repeat' first|refine And.intro ?_ ?_|intro _|omega|(subst hb;refine ih _ _ (by omega) (by omega) ?_;simp[anyBar,barred,bAt,-List.getD_eq_getElem?_getD, *];done)|(simp_all[anyBar,barred,bAt];done)
theorem d43 (g:Gr):Con Tryd.prog 44 [] [g.d] (vi (checkF g)) [] []:=by
 refine con_vc (how:=[none]) (c:=g43) (K:=(KK g43)) (spG true) (fun _=> [1,43,44,45]) (fun _=> []) 400 (.fork (.t .stop) (.fork .stop (.fork (.t (.t .stop)) (.fork (.t .stop) (.fork .stop (.hd 0)))))) (V:=fun G R=>cP 84 [] [vi g.h] (vb (sideB g.h)) [] []∧vE g.h g.h∧((!sideB g.h)=true→true=true∧R (vi 50,[],[]))∧((!sideB g.h)=false→cP 84 [] [vi g.w] (vb (sideB g.w)) [] []∧vE g.w g.w∧((!sideB g.w)=true→R (vi 50,[],[]))∧((!sideB g.w)=false→((↑g.B.length !=IntKind.i64.wrap (g.h*g.w))=true→true=true∧true=true∧R (vi 51,[],[]))∧((↑g.B.length !=IntKind.i64.wrap (g.h*g.w))=false→((↑g.R.length !=IntKind.i64.wrap (g.h*g.w))=true→true=true∧R (vi 51,[],[]))∧((↑g.R.length !=IntKind.i64.wrap (g.h*g.w))=false→((↑g.L.length !=IntKind.i64.wrap (g.h*g.w))=true→R (vi 51,[],[]))∧((↑g.L.length !=IntKind.i64.wrap (g.h*g.w))=false→sK g43 0∧G 0 (stOf 109 [1,43,44,45] [p0,sL tB g.B,vi ↑g.B.length,vi 0] [lB 46 (gG g [])]))))))) hmG Tryd.func44 (by kernel_rfl) (by kernel_rfl) (fun G R=>by kernel_rfl) ?_;dsimp only;rcases Bool.eq_false_or_eq_true (sideB g.h) with h1|h1
 ·rcases Bool.eq_false_or_eq_true (sideB g.w) with w1|w1
  ·have ew:=hw_wrap h1 w1;simp (disch:=omega) only[h1,w1,ew,oo,oop,oq,reduceCtorEq];repeat' first|refine And.intro ?_ ?_|intro _|exact h1▸d80 _|exact w1▸d80 _|rfl|(simp_all[checkF,sizeB3];done)
   have sz:sizeB3 g=true:=by simp_all[sizeB3]
   have:checkF g=if anyBar g (g.h*g.w).toNat 0 then 52 else 0:=by simp[checkF,h1,w1,sz]
   rw[this];exact e43 g h1 w1 sz _ _ _ (by omega) (by have:=hw_in h1 w1;omega) rfl
  ·simp[checkF,h1,w1,d80];exact⟨h1▸d80 _,w1▸d80 _⟩
 ·simp[checkF,h1];exact h1▸d80 _
def vq2 (g:Gr) (i:Int) (G:GT) (R:RT):Prop:=let yy0:=(stOf 75 [1,3] [p0,vi (IntKind.i64.wrap (i+1))] [lB 46 (gG g [])]);let yy1:=(IntKind.i64.wrap (i.tdiv g.w)==IntKind.i64.wrap (g.h-1));let yy2:=(Value.bool true);let yy3:=(g.B.getD (IntKind.i64.wrap (i+g.w)).toNat tB.dflt=false→sK g87 0∧G 0 yy0);let yy4:=(g.L.getD i.toNat tB.dflt=false→false=false∧sK g87 0∧G 0 yy0);(decide (i<IntKind.i64.wrap (g.h*g.w))=true→0≤i∧i<↑g.R.length∧(g.R.getD i.toNat tB.dflt=true→0≤i∧i<↑g.B.length∧(g.B.getD i.toNat tB.dflt=true→true=true∧true=true∧R (D.v yy2,[],[]))∧(g.B.getD i.toNat tB.dflt=false→g.w≠(0:Int)∧((i.tmod g.w==IntKind.i64.wrap (g.w-1))=true→true=true∧R (D.v yy2,[],[]))∧((i.tmod g.w==IntKind.i64.wrap (g.w-1))=false→(0:Int)≤IntKind.i64.wrap (i+1)∧IntKind.i64.wrap (i+1)<↑g.B.length∧(g.B.getD (IntKind.i64.wrap (i+1)).toNat tB.dflt=true→R (D.v yy2,[],[]))∧(g.B.getD (IntKind.i64.wrap (i+1)).toNat tB.dflt=false→0≤i∧i<↑g.L.length∧(g.L.getD i.toNat tB.dflt=true→0≤i∧i<↑g.B.length∧(g.B.getD i.toNat tB.dflt=true→true=true∧true=true∧R (D.v yy2,[],[]))∧(g.B.getD i.toNat tB.dflt=false→g.w≠(0:Int)∧(yy1=true→true=true∧R (D.v yy2,[],[]))∧(yy1=false→(0:Int)≤IntKind.i64.wrap (i+g.w)∧IntKind.i64.wrap (i+g.w)<↑g.B.length∧(g.B.getD (IntKind.i64.wrap (i+g.w)).toNat tB.dflt=true→R (D.v yy2,[],[]))∧yy3)))∧yy4))))∧(g.R.getD i.toNat tB.dflt=false→false=false∧0≤i∧i<↑g.L.length∧(g.L.getD i.toNat tB.dflt=true→0≤i∧i<↑g.B.length∧(g.B.getD i.toNat tB.dflt=true→true=true∧true=true∧R (D.v yy2,[],[]))∧(g.B.getD i.toNat tB.dflt=false→g.w≠(0:Int)∧(yy1=true→true=true∧R (D.v yy2,[],[]))∧(yy1=false→(0:Int)≤IntKind.i64.wrap (i+g.w)∧IntKind.i64.wrap (i+g.w)<↑g.B.length∧(g.B.getD (IntKind.i64.wrap (i+g.w)).toNat tB.dflt=true→R (D.v yy2,[],[]))∧yy3)))∧yy4))∧(decide (i<IntKind.i64.wrap (g.h*g.w))=false→R (vb false,[],[]))
theorem e87 (g:Gr) (h1:sideB g.h=true) (w1:sideB g.w=true) (sz:sizeB3 g=true) (m:Nat):∀(i:Int) (b:Bool),0≤i→i+m=g.h*g.w→anyBar g m i=b→GetsK Tryd.prog Tryd.f116.results.toList [none] (KK g87) 0 (vb b,[],[]) 0 (stOf 75 [1,3] [.ptr 0 0 0,vi i] [lB 46 (gG g [])]):=by
 obtain⟨s1,s2,s3⟩:=size3 sz;have hw:=hw_in h1 w1;have hh:=side_iff.1 h1;have ww:=side_iff.1 w1;have ew:=hw_wrap h1 w1;induction m with
 |zero=>
  intro i b i0 im hb;refine gets_vc (spG true) (fun _=> [1,3]) (fun _=> []) 400 (.fork (.fork (.fork (.t (.t .stop)) (.fork (.t .stop) (.fork .stop (.fork (.fork (.t (.t .stop)) (.fork (.t .stop) (.fork .stop (.hd 0)))) (.f (.hd 0)))))) (.f (.fork (.fork (.t (.t .stop)) (.fork (.t .stop) (.fork .stop (.hd 0)))) (.f (.hd 0))))) .stop) (V:=vq2 g i) hmG (fun G R=>by kernel_rfl) ?_;unfold vq2;try dsimp only
  simp (disch:=omega) only[ew,oo,oop,oq,reduceCtorEq];repeat' first|refine And.intro ?_ ?_|intro _|omega|(simp[←hb,anyBar];done)
 |succ m ih=>
  intro i b i0 im hb;have e1:i.tmod g.w=i%g.w:=Int.tmod_eq_emod_of_nonneg i0;have e2:i.tdiv g.w=i/g.w:=Int.tdiv_eq_ediv_of_nonneg i0;have e3:0≤i/g.w∧i/g.w≤i:=⟨Int.ediv_nonneg i0 (by omega),Int.ediv_le_self _ i0⟩;have e4:=right_in (h:=g.h) (w:=g.w) (i:=i) (by omega) i0 (by omega);have e5:=below_in (h:=g.h) (w:=g.w) (i:=i) (by omega) i0 (by omega);refine gets_vc (spG true) (fun _=> [1,3]) (fun _=> []) 400 (.fork (.fork (.fork (.t (.t .stop)) (.fork (.t .stop) (.fork .stop (.fork (.fork (.t (.t .stop)) (.fork (.t .stop) (.fork .stop (.hd 0)))) (.f (.hd 0)))))) (.f (.fork (.fork (.t (.t .stop)) (.fork (.t .stop) (.fork .stop (.hd 0)))) (.f (.hd 0))))) .stop) (V:=vq2 g i) hmG (fun G R=>by kernel_rfl) ?_;unfold vq2;try dsimp only
  simp (disch:=omega) only[e1,e2,ew,oo,oop,oq,reduceCtorEq];repeat' first|refine And.intro ?_ ?_|intro _|omega|(subst hb;refine ih _ _ (by omega) (by omega) ?_;simp[anyBar,barred,bAt,-List.getD_eq_getElem?_getD, *];done)|(simp_all[anyBar,barred,bAt];done)
theorem chk0 {g:Gr}:checkF g=0↔sideB g.h=true∧sideB g.w=true∧sizeB3 g=true∧anyBar g (g.h*g.w).toNat 0=false:=by
 unfold checkF;cases sideB g.h<;>cases sideB g.w<;>cases sizeB3 g<;>cases anyBar g (g.h*g.w).toNat 0<;>simp
theorem drop_at {α:Type} {xs:List α} {i:Int} (d:α) (h0:0≤i) (h1:i<xs.length):xs.drop i.toNat=xs.getD i.toNat d::xs.drop (i+1).toNat:=by
 have h2:i.toNat<xs.length:=by omega
 rw[List.drop_eq_getElem_cons h2,gE,gQ h2,show(i+1).toNat=i.toNat+1 by omega];rfl
theorem open_in {g:Gr} {i:Int} (h:openF g i=true):checkF g=0∧0≤i∧i<g.h*g.w∧bAt g.B i=false:=by
 simpa [openF,and_assoc] using h
theorem open_of {g:Gr} {i:Int} (h:checkF g=0) (h0:0≤i) (h1:i<g.h*g.w):openF g i= !bAt g.B i:=by
 simp[openF,h,h0,h1]
theorem d87 (g:Gr) (h1:sideB g.h=true) (w1:sideB g.w=true) (sz:sizeB3 g=true):Con Tryd.prog 116 [] [g.d] (vb (anyBar g (g.h*g.w).toNat 0)) [] []:=by
 refine con_vc (how:=[none]) (c:=g87) (K:=(KK g87)) (spG true) (fun _=> [1,3]) (fun _=> []) 400 (.hd 0) (V:=fun G R=>sK g87 0∧G 0 (stOf 75 [1,3] [p0,vi 0] [lB 46 (gG g [])])) hmG Tryd.func116 (by kernel_rfl) (by kernel_rfl) (fun G R=>by kernel_rfl) ?_;try dsimp only
 simp only[sameK_iff,true_and];exact e87 g h1 w1 sz _ _ _ (by omega) (by have:=hw_in h1 w1;omega) rfl
theorem d44 (g:Gr):Con Tryd.prog 80 [] [g.d] (vi (checkF g)) [] []:=by
 refine con_vc (how:=[none]) (c:=g44) (K:=(KK g44)) (spG true) (fun _=> []) (fun _=> []) 400 (.fork (.t .stop) (.fork .stop (.fork (.t (.t .stop)) (.fork (.t .stop) (.fork .stop (.fork .stop .stop)))))) (V:=fun G R=>cP 115 [] [vi g.h] (vb (sideB g.h)) [] []∧vE g.h g.h∧((!sideB g.h)=true→true=true∧R (vi 50,[],[]))∧((!sideB g.h)=false→cP 115 [] [vi g.w] (vb (sideB g.w)) [] []∧vE g.w g.w∧((!sideB g.w)=true→R (vi 50,[],[]))∧((!sideB g.w)=false→((↑g.B.length !=IntKind.i64.wrap (g.h*g.w))=true→true=true∧true=true∧R (vi 51,[],[]))∧((↑g.B.length !=IntKind.i64.wrap (g.h*g.w))=false→((↑g.R.length !=IntKind.i64.wrap (g.h*g.w))=true→true=true∧R (vi 51,[],[]))∧((↑g.R.length !=IntKind.i64.wrap (g.h*g.w))=false→((↑g.L.length !=IntKind.i64.wrap (g.h*g.w))=true→R (vi 51,[],[]))∧((↑g.L.length !=IntKind.i64.wrap (g.h*g.w))=false→cP 116 [] [D.agg (gG g [])] (vb (anyBar g (g.h*g.w).toNat (0:Int))) [] []∧vE g.h g.h∧vE g.w g.w∧g.B=g.B∧g.R=g.R∧g.L=g.L∧(anyBar g (g.h*g.w).toNat (0:Int)=true→R (vi 52,[],[]))∧(anyBar g (g.h*g.w).toNat (0:Int)=false→R (vi 0,[],[])))))))) hmG Tryd.func80 (by kernel_rfl) (by kernel_rfl) (fun G R=>by kernel_rfl) ?_;try dsimp only
 rcases Bool.eq_false_or_eq_true (sideB g.h) with h1|h1
 ·rcases Bool.eq_false_or_eq_true (sideB g.w) with w1|w1
  ·have ew:=hw_wrap h1 w1;simp (disch:=omega) only[h1,w1,ew,oo,oop,oq,reduceCtorEq];repeat' first|refine And.intro ?_ ?_|intro _|exact d87 g h1 w1 (by simp_all[sizeB3])|exact h1▸d82 _|exact w1▸d82 _|rfl|(simp_all[checkF,sizeB3];done)
  ·simp[checkF,h1,w1];exact⟨h1▸d82 _,w1▸d82 _⟩
 ·simp[checkF,h1];exact h1▸d82 _
theorem d88 (g:Gr) (i:Int):Con Tryd.prog 113 [] [g.d,vi i] (vb (decide (0≤i)&&decide (i< (g.B.length:Int))&& !bAt g.B i)) [] []:=by
 refine con_vc (how:=[none]) (c:=g88) (K:=(KK g88)) (spG true) (fun _=> []) (fun _=> []) 400 (.fork (.fork .stop .stop) (.f .stop)) (V:=fun G R=>(decide (i≥(0:Int))=true→(decide (i<↑g.B.length)=true→0≤i∧i<↑g.B.length∧R (D.v (Value.bool !g.B.getD i.toNat tB.dflt),[],[]))∧(decide (i<↑g.B.length)=false→R (vb false,[],[])))∧(decide (i≥(0:Int))=false→false=false∧R (vb false,[],[]))) hmG Tryd.func113 (by kernel_rfl) (by kernel_rfl) (fun G R=>by kernel_rfl) ?_;try dsimp only
 simp (disch:=omega) only[oo,oop,oq,reduceCtorEq];repeat' first|refine And.intro ?_ ?_|intro _|rfl|omega|assumption|(simp_all[-List.getD_eq_getElem?_getD,bAt];done)|(simp_all[-List.getD_eq_getElem?_getD,bAt];intros;omega)
theorem d45 (g:Gr) (i:Int):Con Tryd.prog 78 [] [g.d,vi i] (vb (openF g i)) [] []:=by
 refine con_vc (how:=[none]) (c:=g45) (K:=(KK g45)) (spG true) (fun _=> []) (fun _=> []) 400 (.fork .stop .stop) (V:=fun G R=>let yy0:=(Value.bool (decide (0≤i)&&decide (i<↑g.B.length)&& !bAt g.B i));cP 44 [] [D.agg (gG g [])] (vi (checkF g)) [] []∧gS g g (((checkF g==0)=true→cP 113 [] [D.agg (gG g []),vi i] (D.v yy0) [] []∧gS g g (vE i i∧R (D.v yy0,[],[])))∧((checkF g==0)=false→R (vb false,[],[])))) hmG Tryd.func78 (by kernel_rfl) (by kernel_rfl) (fun G R=>by kernel_rfl) ?_
 try dsimp only
 try dsimp only
 have s1:checkF g=0→(g.B.length:Int)=g.h*g.w:=fun hc=>(size3 (chk0.1 hc).2.2.1).1;repeat' first|refine And.intro ?_ ?_|intro _|rfl|omega|assumption|exact d43 g|exact d88 g i|(simp_all[-List.getD_eq_getElem?_getD,openF];done)|(simp_all[-List.getD_eq_getElem?_getD,openF];intros;omega)
theorem d46 (g:Gr) (i:Int):Con Tryd.prog 142 [] [g.d,vi i] (vb (openF g i)) [] []:=by
 refine con_vc (how:=[none]) (c:=g46) (K:=(KK g46)) (spG true) (fun _=> []) (fun _=> []) 400 (.fork (.fork (.fork .stop .stop) (.f .stop)) (.f (.f .stop))) (V:=fun G R=>cP 80 [] [D.agg (gG g [])] (vi (checkF g)) [] []∧vE g.h g.h∧vE g.w g.w∧g.B=g.B∧g.R=g.R∧g.L=g.L∧((checkF g==0)=true→(decide (i≥(0:Int))=true→(decide (i<IntKind.i64.wrap (g.h*g.w))=true→0≤i∧i<↑g.B.length∧R (D.v (Value.bool !g.B.getD i.toNat tB.dflt),[],[]))∧(decide (i<IntKind.i64.wrap (g.h*g.w))=false→R (vb false,[],[])))∧(decide (i≥(0:Int))=false→false=false∧R (vb false,[],[])))∧((checkF g==0)=false→false=false∧false=false∧R (vb false,[],[]))) hmG Tryd.func142 (by kernel_rfl) (by kernel_rfl) (fun G R=>by kernel_rfl) ?_;try dsimp only
 by_cases hc:checkF g=0
 ·obtain⟨h1,w1,sz,_⟩:=chk0.1 hc;obtain⟨s1,_⟩:=size3 sz;have ew:=hw_wrap h1 w1;simp (disch:=omega) only[ew,oo,oop,oq,reduceCtorEq];repeat' first|refine And.intro ?_ ?_|intro _|rfl|omega|assumption|exact d44 g|(simp_all[-List.getD_eq_getElem?_getD,openF,bAt];done)|(simp_all[-List.getD_eq_getElem?_getD,openF,bAt];intros;omega)
 ·simp[hc,openF,-List.getD_eq_getElem?_getD];exact d44 g
theorem d119:Con Tryd.prog 114 [] [] (.agg ([0,1,1,0,0,-1,-1,0].map fun n=>vi n)) [] []:=by
 refine con_vc (how:=[none]) (c:=g119) (K:=(KK g119)) (spG true) (fun _=> []) (fun _=> []) 400 .stop (V:=fun G R=>let yy0:=(Value.int .i64 (0:Int));R (D.agg [D.v yy0,vi 1,vi 1,D.v yy0,D.v yy0,vi (-1),vi (-1),D.v yy0],[],[])) hmG Tryd.func114 (by kernel_rfl) (by kernel_rfl) (fun G R=>by kernel_rfl) ?_
 try dsimp only
 try dsimp only
 rfl
theorem d85_0 (g:Gr) (i:Int) (ho:openF g i=true):Con Tryd.prog 79 [] [g.d,vi i,vi (0)] (.tup [vi (stepIn g i 0).1,vb (stepIn g i 0).2]) [] []:=by
 obtain⟨hc,i0,i1,hb⟩:=open_in ho;obtain⟨h1,w1,sz,_⟩:=chk0.1 hc;obtain⟨s1,s2,s3⟩:=size3 sz;have hw:=hw_in h1 w1;have hh:=side_iff.1 h1;have ww:=side_iff.1 w1;have e1:i.tmod g.w=i%g.w:=Int.tmod_eq_emod_of_nonneg i0;have e2:i.tdiv g.w=i/g.w:=Int.tdiv_eq_ediv_of_nonneg i0;have rr:=row_in ww.1 i0 i1;have r4:=right_in ww.1 i0 i1;have r5:=below_in ww.1 i0 i1;have r6:0≤i/g.w*g.w:=Int.mul_nonneg rr.1 (by omega);have r7:1≤i/g.w→g.w≤i/g.w*g.w:=fun h=>by have:=Int.mul_le_mul_of_nonneg_right h (show 0≤g.w by omega);omega
 have em:(i/g.w+(0))*g.w=i-i%g.w+(0):=by rw[Int.add_mul];omega
 have ej:i-i%g.w+(0)+(i%g.w+(1))=i+1:=by omega
 have en:(if i+1<i then i+1 else i)=i:=by split<;>omega
 refine con_vc (how:=[none,none]) (c:=g85) (K:=(KK g85)) (spG true) (fun _=> []) (fun _=> []) 400 (.fork (.t (.t (.t (.t .stop)))) (.fork (.t (.t (.t .stop))) (.fork (.t (.t .stop)) (.fork (.t .stop) (.fork .stop (.fork (.fork (.t .stop) (.fork (.fork .stop .stop) (.f .stop))) (.f (.fork (.fork .stop .stop) (.f .stop))))))))) (V:=fun G R=>let yy0:=(IntKind.i64.wrap (IntKind.i64.wrap (IntKind.i64.wrap (i.tdiv g.w)+0)*g.w)+IntKind.i64.wrap (i.tmod g.w+1));let yy1:=(if IntKind.i64.wrap yy0<i then IntKind.i64.wrap yy0 else i);let yy2:=(Value.int .i64 (0:Int));let yy3:=((0:Int)≤if IntKind.i64.wrap yy0<i then IntKind.i64.wrap yy0 else i);let yy4:=(Value.int .i64 (IntKind.i64.wrap yy0));let yy5:=(IntKind.i64.wrap (i.tdiv g.w)+0);let yy6:=(Value.bool false);cP 114 [] [] (D.agg [D.v yy2,vi 1,vi 1,D.v yy2,D.v yy2,vi (-1),vi (-1),D.v yy2]) [] []∧(0:Int)≤0∧(0:Int)<↑4∧2≤8∧g.w≠(0:Int)∧(0:Int)≤0∧(0:Int)<↑2∧g.w≠(0:Int)∧(0:Int)≤1∧(1:Int)<↑2∧(decide (IntKind.i64.wrap yy5< (0:Int))=true→true=true∧true=true∧true=true∧true=true∧R (D.tup [D.v yy2,D.v yy6],[],[]))∧(decide (IntKind.i64.wrap yy5< (0:Int))=false→(decide (IntKind.i64.wrap yy5≥g.h)=true→true=true∧true=true∧true=true∧R (D.tup [D.v yy2,D.v yy6],[],[]))∧(decide (IntKind.i64.wrap yy5≥g.h)=false→(decide (IntKind.i64.wrap (i.tmod g.w+1)< (0:Int))=true→true=true∧true=true∧R (D.tup [D.v yy2,D.v yy6],[],[]))∧(decide (IntKind.i64.wrap (i.tmod g.w+1)< (0:Int))=false→(decide (IntKind.i64.wrap (i.tmod g.w+1)≥g.w)=true→true=true∧R (D.tup [D.v yy2,D.v yy6],[],[]))∧(decide (IntKind.i64.wrap (i.tmod g.w+1)≥g.w)=false→(0:Int)≤IntKind.i64.wrap yy0∧IntKind.i64.wrap yy0<↑g.B.length∧(g.B.getD (IntKind.i64.wrap yy0).toNat tB.dflt=true→R (D.tup [D.v yy2,D.v yy6],[],[]))∧(g.B.getD (IntKind.i64.wrap yy0).toNat tB.dflt=false→(0:Int)≤0∧(0:Int)<↑2∧(((0:Int)==0)=true→yy3∧yy1<↑g.R.length∧(g.R.getD yy1.toNat tB.dflt=true→true=true∧R (D.tup [D.v yy2,D.v yy6],[],[]))∧(g.R.getD yy1.toNat tB.dflt=false→(0:Int)≤1∧(1:Int)<↑2∧(((1:Int)==0)=true→yy3∧yy1<↑g.L.length∧(g.L.getD yy1.toNat tB.dflt=true→R (D.tup [D.v yy2,D.v yy6],[],[]))∧(g.L.getD yy1.toNat tB.dflt=false→R (D.tup [D.v yy4,vb true],[],[])))∧(((1:Int)==0)=false→false=false∧R (D.tup [D.v yy4,vb true],[],[]))))∧(((0:Int)==0)=false→false=false∧(0:Int)≤1∧(1:Int)<↑2∧(((1:Int)==0)=true→yy3∧yy1<↑g.L.length∧(g.L.getD yy1.toNat tB.dflt=true→R (D.tup [D.v yy2,D.v yy6],[],[]))∧(g.L.getD yy1.toNat tB.dflt=false→R (D.tup [D.v yy4,vb true],[],[])))∧(((1:Int)==0)=false→false=false∧R (D.tup [D.v yy4,vb true],[],[]))))))))) hmG Tryd.func79 (by kernel_rfl) (by kernel_rfl) (fun G R=>by kernel_rfl) ?_
 try dsimp only
 try dsimp only
 simp (disch:=omega) only[e1,e2,em,ej,en,oo,oop,oq,reduceCtorEq];repeat' first|refine And.intro ?_ ?_|intro _|rfl|omega|assumption|exact d119|(simp_all[-List.getD_eq_getElem?_getD];done)|(simp_all[-List.getD_eq_getElem?_getD];intros;omega)|(have q:i%g.w<g.w-1:=(by omega);simp[stepIn,stepTo,bAt,-List.getD_eq_getElem?_getD,-Int.pred_toNat,q, *];done)|(have q:¬i%g.w<g.w-1:=(by omega);simp[stepIn,stepTo,bAt,-List.getD_eq_getElem?_getD,-Int.pred_toNat,q, *];done)
theorem d85_1 (g:Gr) (i:Int) (ho:openF g i=true):Con Tryd.prog 79 [] [g.d,vi i,vi (1)] (.tup [vi (stepIn g i 1).1,vb (stepIn g i 1).2]) [] []:=by
 obtain⟨hc,i0,i1,hb⟩:=open_in ho;obtain⟨h1,w1,sz,_⟩:=chk0.1 hc;obtain⟨s1,s2,s3⟩:=size3 sz;have hw:=hw_in h1 w1;have hh:=side_iff.1 h1;have ww:=side_iff.1 w1;have e1:i.tmod g.w=i%g.w:=Int.tmod_eq_emod_of_nonneg i0;have e2:i.tdiv g.w=i/g.w:=Int.tdiv_eq_ediv_of_nonneg i0;have rr:=row_in ww.1 i0 i1;have r4:=right_in ww.1 i0 i1;have r5:=below_in ww.1 i0 i1;have r6:0≤i/g.w*g.w:=Int.mul_nonneg rr.1 (by omega);have r7:1≤i/g.w→g.w≤i/g.w*g.w:=fun h=>by have:=Int.mul_le_mul_of_nonneg_right h (show 0≤g.w by omega);omega
 have em:(i/g.w+(1))*g.w=i-i%g.w+(g.w):=by rw[Int.add_mul];omega
 have ej:i-i%g.w+(g.w)+(i%g.w+(0))=i+g.w:=by omega
 have en:(if i+g.w<i then i+g.w else i)=i:=by split<;>omega
 refine con_vc (how:=[none,none]) (c:=g85) (K:=(KK g85)) (spG true) (fun _=> []) (fun _=> []) 400 (.fork (.t (.t (.t (.t .stop)))) (.fork (.t (.t (.t .stop))) (.fork (.t (.t .stop)) (.fork (.t .stop) (.fork .stop (.fork (.fork (.t .stop) (.fork (.fork .stop .stop) (.f .stop))) (.f (.fork (.fork .stop .stop) (.f .stop))))))))) (V:=fun G R=>let yy0:=(IntKind.i64.wrap (IntKind.i64.wrap (IntKind.i64.wrap (i.tdiv g.w)+1)*g.w)+IntKind.i64.wrap (i.tmod g.w+0));let yy1:=(if IntKind.i64.wrap yy0<i then IntKind.i64.wrap yy0 else i);let yy2:=(Value.int .i64 (0:Int));let yy3:=((0:Int)≤if IntKind.i64.wrap yy0<i then IntKind.i64.wrap yy0 else i);let yy4:=(Value.int .i64 (IntKind.i64.wrap yy0));let yy5:=(IntKind.i64.wrap (i.tdiv g.w)+1);let yy6:=(Value.bool false);cP 114 [] [] (D.agg [D.v yy2,vi 1,vi 1,D.v yy2,D.v yy2,vi (-1),vi (-1),D.v yy2]) [] []∧(0:Int)≤1∧(1:Int)<↑4∧4≤8∧g.w≠(0:Int)∧(0:Int)≤0∧(0:Int)<↑2∧g.w≠(0:Int)∧(0:Int)≤1∧(1:Int)<↑2∧(decide (IntKind.i64.wrap yy5< (0:Int))=true→true=true∧true=true∧true=true∧true=true∧R (D.tup [D.v yy2,D.v yy6],[],[]))∧(decide (IntKind.i64.wrap yy5< (0:Int))=false→(decide (IntKind.i64.wrap yy5≥g.h)=true→true=true∧true=true∧true=true∧R (D.tup [D.v yy2,D.v yy6],[],[]))∧(decide (IntKind.i64.wrap yy5≥g.h)=false→(decide (IntKind.i64.wrap (i.tmod g.w+0)< (0:Int))=true→true=true∧true=true∧R (D.tup [D.v yy2,D.v yy6],[],[]))∧(decide (IntKind.i64.wrap (i.tmod g.w+0)< (0:Int))=false→(decide (IntKind.i64.wrap (i.tmod g.w+0)≥g.w)=true→true=true∧R (D.tup [D.v yy2,D.v yy6],[],[]))∧(decide (IntKind.i64.wrap (i.tmod g.w+0)≥g.w)=false→(0:Int)≤IntKind.i64.wrap yy0∧IntKind.i64.wrap yy0<↑g.B.length∧(g.B.getD (IntKind.i64.wrap yy0).toNat tB.dflt=true→R (D.tup [D.v yy2,D.v yy6],[],[]))∧(g.B.getD (IntKind.i64.wrap yy0).toNat tB.dflt=false→(0:Int)≤0∧(0:Int)<↑2∧(((1:Int)==0)=true→yy3∧yy1<↑g.R.length∧(g.R.getD yy1.toNat tB.dflt=true→true=true∧R (D.tup [D.v yy2,D.v yy6],[],[]))∧(g.R.getD yy1.toNat tB.dflt=false→(0:Int)≤1∧(1:Int)<↑2∧(((0:Int)==0)=true→yy3∧yy1<↑g.L.length∧(g.L.getD yy1.toNat tB.dflt=true→R (D.tup [D.v yy2,D.v yy6],[],[]))∧(g.L.getD yy1.toNat tB.dflt=false→R (D.tup [D.v yy4,vb true],[],[])))∧(((0:Int)==0)=false→false=false∧R (D.tup [D.v yy4,vb true],[],[]))))∧(((1:Int)==0)=false→false=false∧(0:Int)≤1∧(1:Int)<↑2∧(((0:Int)==0)=true→yy3∧yy1<↑g.L.length∧(g.L.getD yy1.toNat tB.dflt=true→R (D.tup [D.v yy2,D.v yy6],[],[]))∧(g.L.getD yy1.toNat tB.dflt=false→R (D.tup [D.v yy4,vb true],[],[])))∧(((0:Int)==0)=false→false=false∧R (D.tup [D.v yy4,vb true],[],[]))))))))) hmG Tryd.func79 (by kernel_rfl) (by kernel_rfl) (fun G R=>by kernel_rfl) ?_
 try dsimp only
 try dsimp only
 simp (disch:=omega) only[e1,e2,em,ej,en,oo,oop,oq,reduceCtorEq];repeat' first|refine And.intro ?_ ?_|intro _|rfl|omega|assumption|exact d119|(simp_all[-List.getD_eq_getElem?_getD];done)|(simp_all[-List.getD_eq_getElem?_getD];intros;omega)|(have q:i/g.w<g.h-1:=(by omega);simp[stepIn,stepTo,bAt,-List.getD_eq_getElem?_getD,-Int.pred_toNat,q, *];done)|(have q:¬i/g.w<g.h-1:=(by omega);simp[stepIn,stepTo,bAt,-List.getD_eq_getElem?_getD,-Int.pred_toNat,q, *];done)
theorem d85_2 (g:Gr) (i:Int) (ho:openF g i=true):Con Tryd.prog 79 [] [g.d,vi i,vi (2)] (.tup [vi (stepIn g i 2).1,vb (stepIn g i 2).2]) [] []:=by
 obtain⟨hc,i0,i1,hb⟩:=open_in ho;obtain⟨h1,w1,sz,_⟩:=chk0.1 hc;obtain⟨s1,s2,s3⟩:=size3 sz;have hw:=hw_in h1 w1;have hh:=side_iff.1 h1;have ww:=side_iff.1 w1;have e1:i.tmod g.w=i%g.w:=Int.tmod_eq_emod_of_nonneg i0;have e2:i.tdiv g.w=i/g.w:=Int.tdiv_eq_ediv_of_nonneg i0;have rr:=row_in ww.1 i0 i1;have r4:=right_in ww.1 i0 i1;have r5:=below_in ww.1 i0 i1;have r6:0≤i/g.w*g.w:=Int.mul_nonneg rr.1 (by omega);have r7:1≤i/g.w→g.w≤i/g.w*g.w:=fun h=>by have:=Int.mul_le_mul_of_nonneg_right h (show 0≤g.w by omega);omega
 have em:(i/g.w+(0))*g.w=i-i%g.w+(0):=by rw[Int.add_mul];omega
 have ej:i-i%g.w+(0)+(i%g.w+(-1))=i-1:=by omega
 have en:(if i-1<i then i-1 else i)=i-1:=by split<;>omega
 refine con_vc (how:=[none,none]) (c:=g85) (K:=(KK g85)) (spG true) (fun _=> []) (fun _=> []) 400 (.fork (.t (.t (.t (.t .stop)))) (.fork (.t (.t (.t .stop))) (.fork (.t (.t .stop)) (.fork (.t .stop) (.fork .stop (.fork (.fork (.t .stop) (.fork (.fork .stop .stop) (.f .stop))) (.f (.fork (.fork .stop .stop) (.f .stop))))))))) (V:=fun G R=>let yy0:=(IntKind.i64.wrap (IntKind.i64.wrap (IntKind.i64.wrap (i.tdiv g.w)+0)*g.w)+IntKind.i64.wrap (i.tmod g.w+(-1:Int)));let yy1:=(if IntKind.i64.wrap yy0<i then IntKind.i64.wrap yy0 else i);let yy2:=(Value.int .i64 (0:Int));let yy3:=((0:Int)≤if IntKind.i64.wrap yy0<i then IntKind.i64.wrap yy0 else i);let yy4:=(Value.int .i64 (IntKind.i64.wrap yy0));let yy5:=(IntKind.i64.wrap (i.tdiv g.w)+0);let yy6:=(Value.bool false);cP 114 [] [] (D.agg [D.v yy2,vi 1,vi 1,D.v yy2,D.v yy2,vi (-1),vi (-1),D.v yy2]) [] []∧(0:Int)≤2∧(2:Int)<↑4∧6≤8∧g.w≠(0:Int)∧(0:Int)≤0∧(0:Int)<↑2∧g.w≠(0:Int)∧(0:Int)≤1∧(1:Int)<↑2∧(decide (IntKind.i64.wrap yy5< (0:Int))=true→true=true∧true=true∧true=true∧true=true∧R (D.tup [D.v yy2,D.v yy6],[],[]))∧(decide (IntKind.i64.wrap yy5< (0:Int))=false→(decide (IntKind.i64.wrap yy5≥g.h)=true→true=true∧true=true∧true=true∧R (D.tup [D.v yy2,D.v yy6],[],[]))∧(decide (IntKind.i64.wrap yy5≥g.h)=false→(decide (IntKind.i64.wrap (i.tmod g.w+(-1:Int))< (0:Int))=true→true=true∧true=true∧R (D.tup [D.v yy2,D.v yy6],[],[]))∧(decide (IntKind.i64.wrap (i.tmod g.w+(-1:Int))< (0:Int))=false→(decide (IntKind.i64.wrap (i.tmod g.w+(-1:Int))≥g.w)=true→true=true∧R (D.tup [D.v yy2,D.v yy6],[],[]))∧(decide (IntKind.i64.wrap (i.tmod g.w+(-1:Int))≥g.w)=false→(0:Int)≤IntKind.i64.wrap yy0∧IntKind.i64.wrap yy0<↑g.B.length∧(g.B.getD (IntKind.i64.wrap yy0).toNat tB.dflt=true→R (D.tup [D.v yy2,D.v yy6],[],[]))∧(g.B.getD (IntKind.i64.wrap yy0).toNat tB.dflt=false→(0:Int)≤0∧(0:Int)<↑2∧(((0:Int)==0)=true→yy3∧yy1<↑g.R.length∧(g.R.getD yy1.toNat tB.dflt=true→true=true∧R (D.tup [D.v yy2,D.v yy6],[],[]))∧(g.R.getD yy1.toNat tB.dflt=false→(0:Int)≤1∧(1:Int)<↑2∧(((-1:Int)==0)=true→yy3∧yy1<↑g.L.length∧(g.L.getD yy1.toNat tB.dflt=true→R (D.tup [D.v yy2,D.v yy6],[],[]))∧(g.L.getD yy1.toNat tB.dflt=false→R (D.tup [D.v yy4,vb true],[],[])))∧(((-1:Int)==0)=false→false=false∧R (D.tup [D.v yy4,vb true],[],[]))))∧(((0:Int)==0)=false→false=false∧(0:Int)≤1∧(1:Int)<↑2∧(((-1:Int)==0)=true→yy3∧yy1<↑g.L.length∧(g.L.getD yy1.toNat tB.dflt=true→R (D.tup [D.v yy2,D.v yy6],[],[]))∧(g.L.getD yy1.toNat tB.dflt=false→R (D.tup [D.v yy4,vb true],[],[])))∧(((-1:Int)==0)=false→false=false∧R (D.tup [D.v yy4,vb true],[],[]))))))))) hmG Tryd.func79 (by kernel_rfl) (by kernel_rfl) (fun G R=>by kernel_rfl) ?_
 try dsimp only
 try dsimp only
 simp (disch:=omega) only[e1,e2,em,ej,en,oo,oop,oq,reduceCtorEq];repeat' first|refine And.intro ?_ ?_|intro _|rfl|omega|assumption|exact d119|(simp_all[-List.getD_eq_getElem?_getD];done)|(simp_all[-List.getD_eq_getElem?_getD];intros;omega)|(have q:0<i%g.w:=(by omega);simp[stepIn,stepTo,bAt,-List.getD_eq_getElem?_getD,-Int.pred_toNat,q, *];done)|(have q:¬0<i%g.w:=(by omega);simp[stepIn,stepTo,bAt,-List.getD_eq_getElem?_getD,-Int.pred_toNat,q, *];done)
theorem d85_3 (g:Gr) (i:Int) (ho:openF g i=true):Con Tryd.prog 79 [] [g.d,vi i,vi (3)] (.tup [vi (stepIn g i 3).1,vb (stepIn g i 3).2]) [] []:=by
 obtain⟨hc,i0,i1,hb⟩:=open_in ho;obtain⟨h1,w1,sz,_⟩:=chk0.1 hc;obtain⟨s1,s2,s3⟩:=size3 sz;have hw:=hw_in h1 w1;have hh:=side_iff.1 h1;have ww:=side_iff.1 w1;have e1:i.tmod g.w=i%g.w:=Int.tmod_eq_emod_of_nonneg i0;have e2:i.tdiv g.w=i/g.w:=Int.tdiv_eq_ediv_of_nonneg i0;have rr:=row_in ww.1 i0 i1;have r4:=right_in ww.1 i0 i1;have r5:=below_in ww.1 i0 i1;have r6:0≤i/g.w*g.w:=Int.mul_nonneg rr.1 (by omega);have r7:1≤i/g.w→g.w≤i/g.w*g.w:=fun h=>by have:=Int.mul_le_mul_of_nonneg_right h (show 0≤g.w by omega);omega
 have em:(i/g.w+(-1))*g.w=i-i%g.w+(-g.w):=by rw[Int.add_mul];omega
 have ej:i-i%g.w+(-g.w)+(i%g.w+(0))=i-g.w:=by omega
 have en:(if i-g.w<i then i-g.w else i)=i-g.w:=by split<;>omega
 refine con_vc (how:=[none,none]) (c:=g85) (K:=(KK g85)) (spG true) (fun _=> []) (fun _=> []) 400 (.fork (.t (.t (.t (.t .stop)))) (.fork (.t (.t (.t .stop))) (.fork (.t (.t .stop)) (.fork (.t .stop) (.fork .stop (.fork (.fork (.t .stop) (.fork (.fork .stop .stop) (.f .stop))) (.f (.fork (.fork .stop .stop) (.f .stop))))))))) (V:=fun G R=>let yy0:=(IntKind.i64.wrap (IntKind.i64.wrap (IntKind.i64.wrap (i.tdiv g.w)+(-1:Int))*g.w)+IntKind.i64.wrap (i.tmod g.w+0));let yy1:=(if IntKind.i64.wrap yy0<i then IntKind.i64.wrap yy0 else i);let yy2:=(Value.int .i64 (0:Int));let yy3:=((0:Int)≤if IntKind.i64.wrap yy0<i then IntKind.i64.wrap yy0 else i);let yy4:=(Value.int .i64 (IntKind.i64.wrap yy0));let yy5:=(IntKind.i64.wrap (i.tdiv g.w)+(-1:Int));let yy6:=(Value.bool false);cP 114 [] [] (D.agg [D.v yy2,vi 1,vi 1,D.v yy2,D.v yy2,vi (-1),vi (-1),D.v yy2]) [] []∧(0:Int)≤3∧(3:Int)<↑4∧8≤8∧g.w≠(0:Int)∧(0:Int)≤0∧(0:Int)<↑2∧g.w≠(0:Int)∧(0:Int)≤1∧(1:Int)<↑2∧(decide (IntKind.i64.wrap yy5< (0:Int))=true→true=true∧true=true∧true=true∧true=true∧R (D.tup [D.v yy2,D.v yy6],[],[]))∧(decide (IntKind.i64.wrap yy5< (0:Int))=false→(decide (IntKind.i64.wrap yy5≥g.h)=true→true=true∧true=true∧true=true∧R (D.tup [D.v yy2,D.v yy6],[],[]))∧(decide (IntKind.i64.wrap yy5≥g.h)=false→(decide (IntKind.i64.wrap (i.tmod g.w+0)< (0:Int))=true→true=true∧true=true∧R (D.tup [D.v yy2,D.v yy6],[],[]))∧(decide (IntKind.i64.wrap (i.tmod g.w+0)< (0:Int))=false→(decide (IntKind.i64.wrap (i.tmod g.w+0)≥g.w)=true→true=true∧R (D.tup [D.v yy2,D.v yy6],[],[]))∧(decide (IntKind.i64.wrap (i.tmod g.w+0)≥g.w)=false→(0:Int)≤IntKind.i64.wrap yy0∧IntKind.i64.wrap yy0<↑g.B.length∧(g.B.getD (IntKind.i64.wrap yy0).toNat tB.dflt=true→R (D.tup [D.v yy2,D.v yy6],[],[]))∧(g.B.getD (IntKind.i64.wrap yy0).toNat tB.dflt=false→(0:Int)≤0∧(0:Int)<↑2∧(((-1:Int)==0)=true→yy3∧yy1<↑g.R.length∧(g.R.getD yy1.toNat tB.dflt=true→true=true∧R (D.tup [D.v yy2,D.v yy6],[],[]))∧(g.R.getD yy1.toNat tB.dflt=false→(0:Int)≤1∧(1:Int)<↑2∧(((0:Int)==0)=true→yy3∧yy1<↑g.L.length∧(g.L.getD yy1.toNat tB.dflt=true→R (D.tup [D.v yy2,D.v yy6],[],[]))∧(g.L.getD yy1.toNat tB.dflt=false→R (D.tup [D.v yy4,vb true],[],[])))∧(((0:Int)==0)=false→false=false∧R (D.tup [D.v yy4,vb true],[],[]))))∧(((-1:Int)==0)=false→false=false∧(0:Int)≤1∧(1:Int)<↑2∧(((0:Int)==0)=true→yy3∧yy1<↑g.L.length∧(g.L.getD yy1.toNat tB.dflt=true→R (D.tup [D.v yy2,D.v yy6],[],[]))∧(g.L.getD yy1.toNat tB.dflt=false→R (D.tup [D.v yy4,vb true],[],[])))∧(((0:Int)==0)=false→false=false∧R (D.tup [D.v yy4,vb true],[],[]))))))))) hmG Tryd.func79 (by kernel_rfl) (by kernel_rfl) (fun G R=>by kernel_rfl) ?_
 try dsimp only
 try dsimp only
 simp (disch:=omega) only[e1,e2,em,ej,en,oo,oop,oq,reduceCtorEq];repeat' first|refine And.intro ?_ ?_|intro _|rfl|omega|assumption|exact d119|(simp_all[-List.getD_eq_getElem?_getD];done)|(simp_all[-List.getD_eq_getElem?_getD];intros;omega)|(have q:0<i/g.w:=(by omega);simp[stepIn,stepTo,bAt,-List.getD_eq_getElem?_getD,-Int.pred_toNat,q, *];done)|(have q:¬0<i/g.w:=(by omega);simp[stepIn,stepTo,bAt,-List.getD_eq_getElem?_getD,-Int.pred_toNat,q, *];done)
theorem d85 (g:Gr) (i y:Int) (ho:openF g i=true) (h0:0≤y) (h4:y<4):Con Tryd.prog 79 [] [g.d,vi i,vi y] (.tup [vi (stepIn g i y).1,vb (stepIn g i y).2]) [] []:=by
 have:y=0∨y=1∨y=2∨y=3:=by omega
 rcases this with rfl|rfl|rfl|rfl
 ·exact d85_0 g i ho
 ·exact d85_1 g i ho
 ·exact d85_2 g i ho
 ·exact d85_3 g i ho
theorem step_off {g:Gr} {i y:Int} (h:y<0∨3<y):stepIn g i y=(0,false):=by
 unfold stepIn;rw[if_neg (by omega),if_neg (by omega),if_neg (by omega),if_neg (by omega)]
theorem bytes3:Tryd.prog.bytesOf 3=8:=by kernel_rfl
theorem room3 {n:Nat} (h:n≤1000000):roomy Tryd.prog 3 n:=by
 unfold roomy;rw[bytes3];omega
theorem drop_eq {α:Type} [DecidableEq α] {A B:List α} {i:Int} (d:α) (h0:0≤i) (h1:i<A.length) (h2:i<B.length):
  decide (A.drop i.toNat=B.drop i.toNat)=(decide (A.getD i.toNat d=B.getD i.toNat d)&&decide (A.drop (i+1).toNat=B.drop (i+1).toNat)):=by
 rw[drop_at d h0 h1,drop_at d h0 h2];simp[-List.getD_eq_getElem?_getD]
theorem drop_end {α:Type} [DecidableEq α] {A B:List α} {i:Int} (h1:A.length≤i) (h2:B.length≤i):decide (A.drop i.toNat=B.drop i.toNat)=true:=by
 rw[List.drop_eq_nil_of_le (by omega),List.drop_eq_nil_of_le (by omega)];simp
theorem d37 (g:Gr) (i y:Int):Con Tryd.prog 37 [] [g.d,vi i,vi y] (.tup [vi (stepF g i y).1,vb (stepF g i y).2]) [] []:=by
 refine con_vc (how:=[none,none]) (c:=g37) (K:=(KK g37)) (spG true) (fun _=> []) (fun _=> []) 400 (.fork (.t (.t .stop)) (.fork (.t .stop) (.fork .stop .stop))) (V:=fun G R=>(decide (y< (0:Int))=true→true=true∧true=true∧R (D.tup [vi 0,vb false],[],[]))∧(decide (y< (0:Int))=false→(decide (y>(3:Int))=true→true=true∧R (D.tup [vi 0,vb false],[],[]))∧(decide (y>(3:Int))=false→cP 78 [] [D.agg (gG g []),vi i] (vb (openF g i)) [] []∧gS g g (vE i i∧((!openF g i)=true→R (D.tup [vi 0,vb false],[],[]))∧((!openF g i)=false→cP 79 [] [D.agg (gG g []),vi i,vi y] (D.tup [vi (stepIn g i y).fst,vb (stepIn g i y).snd]) [] []∧gS g g (vE i i∧vE y y∧R (D.tup [vi (stepIn g i y).fst,vb (stepIn g i y).snd],[],[]))))))) hmG Tryd.func37 (by kernel_rfl) (by kernel_rfl) (fun G R=>by kernel_rfl) ?_;try dsimp only
 simp (disch:=omega) only[oo,oop,oq,reduceCtorEq];repeat' first|with_reducible apply And.intro|intro _|rfl|exact d45 g i|(rw[stepF,step_off (by omega)];simp;done)|(refine d85 g i y ?_ ?_ ?_<;>first|assumption|omega)|(simp_all[stepF];done)
theorem d38_0 (g:Gr) (i:Int):Con Tryd.prog 117 [] [g.d,vi i,vi (0)] (.tup [vi (stepF g i (0)).1,vb (stepF g i (0)).2]) [] []:=by
 refine con_vc (how:=[none,none]) (c:=g38) (K:=(KK g38)) (spG true) (fun _=> []) (fun _=> []) 400 (.fork .stop (.t (.fork (.fork (.fork (.t .stop) (.fork .stop .stop)) (.f (.f (.f (.f (.f (.f (.f (.f (.f (.fork (.t .stop) (.fork .stop .stop)))))))))))) (.f (.f (.f (.f (.f (.f (.f (.f (.f (.f (.fork (.t .stop) (.fork .stop .stop))))))))))))))) (V:=fun G R=>let yy0:=(Value.int .i64 (0:Int));let yy1:=(Value.bool false);let yy2:=(i+1);cP 142 [] [D.agg (gG g []),vi i] (vb (openF g i)) [] []∧vE g.h g.h∧vE g.w g.w∧g.B=g.B∧g.R=g.R∧g.L=g.L∧vE i i∧((!openF g i)=true→R (D.tup [D.v yy0,D.v yy1],[],[]))∧((!openF g i)=false→g.w≠(0:Int)∧g.w≠(0:Int)∧((0:Int)==0)=true∧(decide (i.tmod g.w<IntKind.i64.wrap (g.w-1))=true→0≤i∧i<g.R.length∧((!g.R.getD i.toNat tB.dflt)=true→(decide (IntKind.i64.wrap yy2< (0:Int))=true→true=true∧R (D.tup [D.v yy0,D.v yy1],[],[]))∧(decide (IntKind.i64.wrap yy2< (0:Int))=false→(0:Int)≤IntKind.i64.wrap yy2∧IntKind.i64.wrap yy2< (↑g.B.length:Int)∧(g.B.getD (IntKind.i64.wrap yy2).toNat tB.dflt=true→R (D.tup [D.v yy0,D.v yy1],[],[]))∧(g.B.getD (IntKind.i64.wrap yy2).toNat tB.dflt=false→R (D.tup [vi (IntKind.i64.wrap yy2),vb true],[],[]))))∧((!g.R.getD i.toNat tB.dflt)=false→((0:Int)==1)=false∧false=false∧false=false∧((0:Int)==2)=false∧false=false∧false=false∧((0:Int)==3)=false∧false=false∧false=false∧(decide ((-1:Int)<0)=true→true=true∧R (D.tup [D.v yy0,D.v yy1],[],[]))∧(decide ((-1:Int)<0)=false→(0:Int)≤(-1:Int)∧(-1:Int)< (↑g.B.length:Int)∧(g.B.getD 0 tB.dflt=true→R (D.tup [D.v yy0,D.v yy1],[],[]))∧(g.B.getD 0 tB.dflt=false→R (D.tup [vi (-1),vb true],[],[])))))∧(decide (i.tmod g.w<IntKind.i64.wrap (g.w-1))=false→false=false∧((0:Int)==1)=false∧false=false∧false=false∧((0:Int)==2)=false∧false=false∧false=false∧((0:Int)==3)=false∧false=false∧false=false∧(decide ((-1:Int)<0)=true→true=true∧R (D.tup [D.v yy0,D.v yy1],[],[]))∧(decide ((-1:Int)<0)=false→(0:Int)≤(-1:Int)∧(-1:Int)< (↑g.B.length:Int)∧(g.B.getD 0 tB.dflt=true→R (D.tup [D.v yy0,D.v yy1],[],[]))∧(g.B.getD 0 tB.dflt=false→R (D.tup [vi (-1),vb true],[],[])))))) hmG Tryd.func117 (by kernel_rfl) (by kernel_rfl) (fun G R=>by kernel_rfl) ?_
 try dsimp only
 try dsimp only
 rcases Bool.eq_false_or_eq_true (openF g i) with ho|ho;rotate_left
 ·simp[ho,stepF];have:=d46 g i;rwa [ho] at this
 ·obtain⟨hc,i0,i1,hb⟩:=open_in ho;obtain⟨h1,w1,sz,_⟩:=chk0.1 hc;obtain⟨s1,s2,s3⟩:=size3 sz;have hw:=hw_in h1 w1;have hh:=side_iff.1 h1;have ww:=side_iff.1 w1;have e1:i.tmod g.w=i%g.w:=Int.tmod_eq_emod_of_nonneg i0;have e2:i.tdiv g.w=i/g.w:=Int.tdiv_eq_ediv_of_nonneg i0;have rr:=row_in ww.1 i0 i1;have r4:=right_in ww.1 i0 i1;have r5:=below_in ww.1 i0 i1;have r6:0≤i/g.w*g.w:=Int.mul_nonneg rr.1 (by omega);have r7:1≤i/g.w→g.w≤i/g.w*g.w:=fun h=>by have:=Int.mul_le_mul_of_nonneg_right h (show 0≤g.w by omega);omega
  simp only[stepF,ho,if_true];simp (disch:=omega) only[e1,e2,ho,oo,oop,oq,reduceCtorEq];repeat' first|with_reducible apply And.intro|intro _|rfl|omega|assumption|(have:=d46 g i;rwa [ho] at this)|(have q:i%g.w<g.w-1:=(by omega);simp[stepIn,stepTo,bAt,-List.getD_eq_getElem?_getD,-Int.pred_toNat,q, *];done)|(have q:¬i%g.w<g.w-1:=(by omega);simp[stepIn,stepTo,bAt,-List.getD_eq_getElem?_getD,-Int.pred_toNat,q, *];done)|(have q:i/g.w<g.h-1:=(by omega);simp[stepIn,stepTo,bAt,-List.getD_eq_getElem?_getD,-Int.pred_toNat,q, *];done)|(have q:¬i/g.w<g.h-1:=(by omega);simp[stepIn,stepTo,bAt,-List.getD_eq_getElem?_getD,-Int.pred_toNat,q, *];done)|(have q:0<i%g.w:=(by omega);simp[stepIn,stepTo,bAt,-List.getD_eq_getElem?_getD,-Int.pred_toNat,q, *];done)|(have q:¬0<i%g.w:=(by omega);simp[stepIn,stepTo,bAt,-List.getD_eq_getElem?_getD,-Int.pred_toNat,q, *];done)|(have q:0<i/g.w:=(by omega);simp[stepIn,stepTo,bAt,-List.getD_eq_getElem?_getD,-Int.pred_toNat,q, *];done)|(have q:¬0<i/g.w:=(by omega);simp[stepIn,stepTo,bAt,-List.getD_eq_getElem?_getD,-Int.pred_toNat,q, *];done)|(simp[stepIn,stepTo,bAt,-List.getD_eq_getElem?_getD,-Int.pred_toNat, *];done)
theorem d38_1 (g:Gr) (i:Int):Con Tryd.prog 117 [] [g.d,vi i,vi (1)] (.tup [vi (stepF g i (1)).1,vb (stepF g i (1)).2]) [] []:=by
 refine con_vc (how:=[none,none]) (c:=g38) (K:=(KK g38)) (spG true) (fun _=> []) (fun _=> []) 400 (.fork .stop (.f (.f (.f (.t (.fork (.fork (.fork (.t .stop) (.fork .stop .stop)) (.f (.f (.f (.f (.f (.f (.fork (.t .stop) (.fork .stop .stop))))))))) (.f (.f (.f (.f (.f (.f (.f (.fork (.t .stop) (.fork .stop .stop))))))))))))))) (V:=fun G R=>let yy0:=(Value.int .i64 (0:Int));let yy1:=(Value.bool false);cP 142 [] [D.agg (gG g []),vi i] (vb (openF g i)) [] []∧vE g.h g.h∧vE g.w g.w∧g.B=g.B∧g.R=g.R∧g.L=g.L∧vE i i∧((!openF g i)=true→R (D.tup [D.v yy0,D.v yy1],[],[]))∧((!openF g i)=false→g.w≠(0:Int)∧g.w≠(0:Int)∧((1:Int)==0)=false∧false=false∧false=false∧((1:Int)==1)=true∧(decide (IntKind.i64.wrap (i.tdiv g.w)<IntKind.i64.wrap (g.h-1))=true→0≤i∧i<g.L.length∧((!g.L.getD i.toNat tB.dflt)=true→(decide (IntKind.i64.wrap (i+g.w)< (0:Int))=true→true=true∧R (D.tup [D.v yy0,D.v yy1],[],[]))∧(decide (IntKind.i64.wrap (i+g.w)< (0:Int))=false→(0:Int)≤IntKind.i64.wrap (i+g.w)∧IntKind.i64.wrap (i+g.w)< (↑g.B.length:Int)∧(g.B.getD (IntKind.i64.wrap (i+g.w)).toNat tB.dflt=true→R (D.tup [D.v yy0,D.v yy1],[],[]))∧(g.B.getD (IntKind.i64.wrap (i+g.w)).toNat tB.dflt=false→R (D.tup [vi (IntKind.i64.wrap (i+g.w)),vb true],[],[]))))∧((!g.L.getD i.toNat tB.dflt)=false→((1:Int)==2)=false∧false=false∧false=false∧((1:Int)==3)=false∧false=false∧false=false∧(decide ((-1:Int)<0)=true→true=true∧R (D.tup [D.v yy0,D.v yy1],[],[]))∧(decide ((-1:Int)<0)=false→(0:Int)≤(-1:Int)∧(-1:Int)< (↑g.B.length:Int)∧(g.B.getD 0 tB.dflt=true→R (D.tup [D.v yy0,D.v yy1],[],[]))∧(g.B.getD 0 tB.dflt=false→R (D.tup [vi (-1),vb true],[],[])))))∧(decide (IntKind.i64.wrap (i.tdiv g.w)<IntKind.i64.wrap (g.h-1))=false→false=false∧((1:Int)==2)=false∧false=false∧false=false∧((1:Int)==3)=false∧false=false∧false=false∧(decide ((-1:Int)<0)=true→true=true∧R (D.tup [D.v yy0,D.v yy1],[],[]))∧(decide ((-1:Int)<0)=false→(0:Int)≤(-1:Int)∧(-1:Int)< (↑g.B.length:Int)∧(g.B.getD 0 tB.dflt=true→R (D.tup [D.v yy0,D.v yy1],[],[]))∧(g.B.getD 0 tB.dflt=false→R (D.tup [vi (-1),vb true],[],[])))))) hmG Tryd.func117 (by kernel_rfl) (by kernel_rfl) (fun G R=>by kernel_rfl) ?_
 try dsimp only
 try dsimp only
 rcases Bool.eq_false_or_eq_true (openF g i) with ho|ho;rotate_left
 ·simp[ho,stepF];have:=d46 g i;rwa [ho] at this
 ·obtain⟨hc,i0,i1,hb⟩:=open_in ho;obtain⟨h1,w1,sz,_⟩:=chk0.1 hc;obtain⟨s1,s2,s3⟩:=size3 sz;have hw:=hw_in h1 w1;have hh:=side_iff.1 h1;have ww:=side_iff.1 w1;have e1:i.tmod g.w=i%g.w:=Int.tmod_eq_emod_of_nonneg i0;have e2:i.tdiv g.w=i/g.w:=Int.tdiv_eq_ediv_of_nonneg i0;have rr:=row_in ww.1 i0 i1;have r4:=right_in ww.1 i0 i1;have r5:=below_in ww.1 i0 i1;have r6:0≤i/g.w*g.w:=Int.mul_nonneg rr.1 (by omega);have r7:1≤i/g.w→g.w≤i/g.w*g.w:=fun h=>by have:=Int.mul_le_mul_of_nonneg_right h (show 0≤g.w by omega);omega
  simp only[stepF,ho,if_true];simp (disch:=omega) only[e1,e2,ho,oo,oop,oq,reduceCtorEq];repeat' first|with_reducible apply And.intro|intro _|rfl|omega|assumption|(have:=d46 g i;rwa [ho] at this)|(have q:i%g.w<g.w-1:=(by omega);simp[stepIn,stepTo,bAt,-List.getD_eq_getElem?_getD,-Int.pred_toNat,q, *];done)|(have q:¬i%g.w<g.w-1:=(by omega);simp[stepIn,stepTo,bAt,-List.getD_eq_getElem?_getD,-Int.pred_toNat,q, *];done)|(have q:i/g.w<g.h-1:=(by omega);simp[stepIn,stepTo,bAt,-List.getD_eq_getElem?_getD,-Int.pred_toNat,q, *];done)|(have q:¬i/g.w<g.h-1:=(by omega);simp[stepIn,stepTo,bAt,-List.getD_eq_getElem?_getD,-Int.pred_toNat,q, *];done)|(have q:0<i%g.w:=(by omega);simp[stepIn,stepTo,bAt,-List.getD_eq_getElem?_getD,-Int.pred_toNat,q, *];done)|(have q:¬0<i%g.w:=(by omega);simp[stepIn,stepTo,bAt,-List.getD_eq_getElem?_getD,-Int.pred_toNat,q, *];done)|(have q:0<i/g.w:=(by omega);simp[stepIn,stepTo,bAt,-List.getD_eq_getElem?_getD,-Int.pred_toNat,q, *];done)|(have q:¬0<i/g.w:=(by omega);simp[stepIn,stepTo,bAt,-List.getD_eq_getElem?_getD,-Int.pred_toNat,q, *];done)|(simp[stepIn,stepTo,bAt,-List.getD_eq_getElem?_getD,-Int.pred_toNat, *];done)
theorem d38_2 (g:Gr) (i:Int):Con Tryd.prog 117 [] [g.d,vi i,vi (2)] (.tup [vi (stepF g i (2)).1,vb (stepF g i (2)).2]) [] []:=by
 refine con_vc (how:=[none,none]) (c:=g38) (K:=(KK g38)) (spG true) (fun _=> []) (fun _=> []) 400 (.fork .stop (.f (.f (.f (.f (.f (.f (.t (.fork (.fork (.fork (.t .stop) (.fork .stop .stop)) (.f (.f (.f (.fork (.t .stop) (.fork .stop .stop)))))) (.f (.f (.f (.f (.fork (.t .stop) (.fork .stop .stop))))))))))))))) (V:=fun G R=>let yy0:=(Value.int .i64 (0:Int));let yy1:=(IntKind.i64.wrap (i-1));let yy2:=(Value.bool false);cP 142 [] [D.agg (gG g []),vi i] (vb (openF g i)) [] []∧vE g.h g.h∧vE g.w g.w∧g.B=g.B∧g.R=g.R∧g.L=g.L∧vE i i∧((!openF g i)=true→R (D.tup [D.v yy0,D.v yy2],[],[]))∧((!openF g i)=false→g.w≠(0:Int)∧g.w≠(0:Int)∧((2:Int)==0)=false∧false=false∧false=false∧((2:Int)==1)=false∧false=false∧false=false∧((2:Int)==2)=true∧(decide (i.tmod g.w>(0:Int))=true→(0:Int)≤IntKind.i64.wrap (i-1)∧IntKind.i64.wrap (i-1)< (↑g.R.length:Int)∧((!g.R.getD yy1.toNat tB.dflt)=true→(decide (IntKind.i64.wrap (i-1)< (0:Int))=true→true=true∧R (D.tup [D.v yy0,D.v yy2],[],[]))∧(decide (IntKind.i64.wrap (i-1)< (0:Int))=false→(0:Int)≤IntKind.i64.wrap (i-1)∧IntKind.i64.wrap (i-1)< (↑g.B.length:Int)∧(g.B.getD yy1.toNat tB.dflt=true→R (D.tup [D.v yy0,D.v yy2],[],[]))∧(g.B.getD yy1.toNat tB.dflt=false→R (D.tup [vi yy1,vb true],[],[]))))∧((!g.R.getD yy1.toNat tB.dflt)=false→((2:Int)==3)=false∧false=false∧false=false∧(decide ((-1:Int)<0)=true→true=true∧R (D.tup [D.v yy0,D.v yy2],[],[]))∧(decide ((-1:Int)<0)=false→(0:Int)≤(-1:Int)∧(-1:Int)< (↑g.B.length:Int)∧(g.B.getD 0 tB.dflt=true→R (D.tup [D.v yy0,D.v yy2],[],[]))∧(g.B.getD 0 tB.dflt=false→R (D.tup [vi (-1),vb true],[],[])))))∧(decide (i.tmod g.w>(0:Int))=false→false=false∧((2:Int)==3)=false∧false=false∧false=false∧(decide ((-1:Int)<0)=true→true=true∧R (D.tup [D.v yy0,D.v yy2],[],[]))∧(decide ((-1:Int)<0)=false→(0:Int)≤(-1:Int)∧(-1:Int)< (↑g.B.length:Int)∧(g.B.getD 0 tB.dflt=true→R (D.tup [D.v yy0,D.v yy2],[],[]))∧(g.B.getD 0 tB.dflt=false→R (D.tup [vi (-1),vb true],[],[])))))) hmG Tryd.func117 (by kernel_rfl) (by kernel_rfl) (fun G R=>by kernel_rfl) ?_
 try dsimp only
 try dsimp only
 rcases Bool.eq_false_or_eq_true (openF g i) with ho|ho;rotate_left
 ·simp[ho,stepF];have:=d46 g i;rwa [ho] at this
 ·obtain⟨hc,i0,i1,hb⟩:=open_in ho;obtain⟨h1,w1,sz,_⟩:=chk0.1 hc;obtain⟨s1,s2,s3⟩:=size3 sz;have hw:=hw_in h1 w1;have hh:=side_iff.1 h1;have ww:=side_iff.1 w1;have e1:i.tmod g.w=i%g.w:=Int.tmod_eq_emod_of_nonneg i0;have e2:i.tdiv g.w=i/g.w:=Int.tdiv_eq_ediv_of_nonneg i0;have rr:=row_in ww.1 i0 i1;have r4:=right_in ww.1 i0 i1;have r5:=below_in ww.1 i0 i1;have r6:0≤i/g.w*g.w:=Int.mul_nonneg rr.1 (by omega);have r7:1≤i/g.w→g.w≤i/g.w*g.w:=fun h=>by have:=Int.mul_le_mul_of_nonneg_right h (show 0≤g.w by omega);omega
  simp only[stepF,ho,if_true];simp (disch:=omega) only[e1,e2,ho,oo,oop,oq,reduceCtorEq];repeat' first|with_reducible apply And.intro|intro _|rfl|omega|assumption|(have:=d46 g i;rwa [ho] at this)|(have q:i%g.w<g.w-1:=(by omega);simp[stepIn,stepTo,bAt,-List.getD_eq_getElem?_getD,-Int.pred_toNat,q, *];done)|(have q:¬i%g.w<g.w-1:=(by omega);simp[stepIn,stepTo,bAt,-List.getD_eq_getElem?_getD,-Int.pred_toNat,q, *];done)|(have q:i/g.w<g.h-1:=(by omega);simp[stepIn,stepTo,bAt,-List.getD_eq_getElem?_getD,-Int.pred_toNat,q, *];done)|(have q:¬i/g.w<g.h-1:=(by omega);simp[stepIn,stepTo,bAt,-List.getD_eq_getElem?_getD,-Int.pred_toNat,q, *];done)|(have q:0<i%g.w:=(by omega);simp[stepIn,stepTo,bAt,-List.getD_eq_getElem?_getD,-Int.pred_toNat,q, *];done)|(have q:¬0<i%g.w:=(by omega);simp[stepIn,stepTo,bAt,-List.getD_eq_getElem?_getD,-Int.pred_toNat,q, *];done)|(have q:0<i/g.w:=(by omega);simp[stepIn,stepTo,bAt,-List.getD_eq_getElem?_getD,-Int.pred_toNat,q, *];done)|(have q:¬0<i/g.w:=(by omega);simp[stepIn,stepTo,bAt,-List.getD_eq_getElem?_getD,-Int.pred_toNat,q, *];done)|(simp[stepIn,stepTo,bAt,-List.getD_eq_getElem?_getD,-Int.pred_toNat, *];done)
theorem d38_3 (g:Gr) (i:Int):Con Tryd.prog 117 [] [g.d,vi i,vi (3)] (.tup [vi (stepF g i (3)).1,vb (stepF g i (3)).2]) [] []:=by
 refine con_vc (how:=[none,none]) (c:=g38) (K:=(KK g38)) (spG true) (fun _=> []) (fun _=> []) 400 (.fork .stop (.f (.f (.f (.f (.f (.f (.f (.f (.f (.t (.fork (.fork (.fork (.t .stop) (.fork .stop .stop)) (.fork (.t .stop) (.fork .stop .stop))) (.f (.fork (.t .stop) (.fork .stop .stop))))))))))))))) (V:=fun G R=>let yy0:=(Value.int .i64 (0:Int));let yy1:=(IntKind.i64.wrap (i-g.w));let yy2:=(Value.bool false);cP 142 [] [D.agg (gG g []),vi i] (vb (openF g i)) [] []∧vE g.h g.h∧vE g.w g.w∧g.B=g.B∧g.R=g.R∧g.L=g.L∧vE i i∧((!openF g i)=true→R (D.tup [D.v yy0,D.v yy2],[],[]))∧((!openF g i)=false→g.w≠(0:Int)∧g.w≠(0:Int)∧((3:Int)==0)=false∧false=false∧false=false∧((3:Int)==1)=false∧false=false∧false=false∧((3:Int)==2)=false∧false=false∧false=false∧((3:Int)==3)=true∧(decide (IntKind.i64.wrap (i.tdiv g.w)>(0:Int))=true→(0:Int)≤IntKind.i64.wrap (i-g.w)∧IntKind.i64.wrap (i-g.w)< (↑g.L.length:Int)∧((!g.L.getD yy1.toNat tB.dflt)=true→(decide (IntKind.i64.wrap (i-g.w)< (0:Int))=true→true=true∧R (D.tup [D.v yy0,D.v yy2],[],[]))∧(decide (IntKind.i64.wrap (i-g.w)< (0:Int))=false→(0:Int)≤IntKind.i64.wrap (i-g.w)∧IntKind.i64.wrap (i-g.w)< (↑g.B.length:Int)∧(g.B.getD yy1.toNat tB.dflt=true→R (D.tup [D.v yy0,D.v yy2],[],[]))∧(g.B.getD yy1.toNat tB.dflt=false→R (D.tup [vi yy1,vb true],[],[]))))∧((!g.L.getD yy1.toNat tB.dflt)=false→(decide ((-1:Int)<0)=true→true=true∧R (D.tup [D.v yy0,D.v yy2],[],[]))∧(decide ((-1:Int)<0)=false→(0:Int)≤(-1:Int)∧(-1:Int)< (↑g.B.length:Int)∧(g.B.getD 0 tB.dflt=true→R (D.tup [D.v yy0,D.v yy2],[],[]))∧(g.B.getD 0 tB.dflt=false→R (D.tup [vi (-1),vb true],[],[])))))∧(decide (IntKind.i64.wrap (i.tdiv g.w)>(0:Int))=false→false=false∧(decide ((-1:Int)<0)=true→true=true∧R (D.tup [D.v yy0,D.v yy2],[],[]))∧(decide ((-1:Int)<0)=false→(0:Int)≤(-1:Int)∧(-1:Int)< (↑g.B.length:Int)∧(g.B.getD 0 tB.dflt=true→R (D.tup [D.v yy0,D.v yy2],[],[]))∧(g.B.getD 0 tB.dflt=false→R (D.tup [vi (-1),vb true],[],[])))))) hmG Tryd.func117 (by kernel_rfl) (by kernel_rfl) (fun G R=>by kernel_rfl) ?_
 try dsimp only
 try dsimp only
 rcases Bool.eq_false_or_eq_true (openF g i) with ho|ho;rotate_left
 ·simp[ho,stepF];have:=d46 g i;rwa [ho] at this
 ·obtain⟨hc,i0,i1,hb⟩:=open_in ho;obtain⟨h1,w1,sz,_⟩:=chk0.1 hc;obtain⟨s1,s2,s3⟩:=size3 sz;have hw:=hw_in h1 w1;have hh:=side_iff.1 h1;have ww:=side_iff.1 w1;have e1:i.tmod g.w=i%g.w:=Int.tmod_eq_emod_of_nonneg i0;have e2:i.tdiv g.w=i/g.w:=Int.tdiv_eq_ediv_of_nonneg i0;have rr:=row_in ww.1 i0 i1;have r4:=right_in ww.1 i0 i1;have r5:=below_in ww.1 i0 i1;have r6:0≤i/g.w*g.w:=Int.mul_nonneg rr.1 (by omega);have r7:1≤i/g.w→g.w≤i/g.w*g.w:=fun h=>by have:=Int.mul_le_mul_of_nonneg_right h (show 0≤g.w by omega);omega
  simp only[stepF,ho,if_true];simp (disch:=omega) only[e1,e2,ho,oo,oop,oq,reduceCtorEq];repeat' first|with_reducible apply And.intro|intro _|rfl|omega|assumption|(have:=d46 g i;rwa [ho] at this)|(have q:i%g.w<g.w-1:=(by omega);simp[stepIn,stepTo,bAt,-List.getD_eq_getElem?_getD,-Int.pred_toNat,q, *];done)|(have q:¬i%g.w<g.w-1:=(by omega);simp[stepIn,stepTo,bAt,-List.getD_eq_getElem?_getD,-Int.pred_toNat,q, *];done)|(have q:i/g.w<g.h-1:=(by omega);simp[stepIn,stepTo,bAt,-List.getD_eq_getElem?_getD,-Int.pred_toNat,q, *];done)|(have q:¬i/g.w<g.h-1:=(by omega);simp[stepIn,stepTo,bAt,-List.getD_eq_getElem?_getD,-Int.pred_toNat,q, *];done)|(have q:0<i%g.w:=(by omega);simp[stepIn,stepTo,bAt,-List.getD_eq_getElem?_getD,-Int.pred_toNat,q, *];done)|(have q:¬0<i%g.w:=(by omega);simp[stepIn,stepTo,bAt,-List.getD_eq_getElem?_getD,-Int.pred_toNat,q, *];done)|(have q:0<i/g.w:=(by omega);simp[stepIn,stepTo,bAt,-List.getD_eq_getElem?_getD,-Int.pred_toNat,q, *];done)|(have q:¬0<i/g.w:=(by omega);simp[stepIn,stepTo,bAt,-List.getD_eq_getElem?_getD,-Int.pred_toNat,q, *];done)|(simp[stepIn,stepTo,bAt,-List.getD_eq_getElem?_getD,-Int.pred_toNat, *];done)
theorem d38_4 (g:Gr) (i y:Int) (hy:y<0∨3<y):Con Tryd.prog 117 [] [g.d,vi i,vi y] (.tup [vi (stepF g i y).1,vb (stepF g i y).2]) [] []:=by
 refine con_vc (how:=[none,none]) (c:=g38) (K:=(KK g38)) (spG true) (fun _=> []) (fun _=> []) 400 (.fork .stop (.f (.f (.f (.f (.f (.f (.f (.f (.f (.f (.f (.f (.fork (.t .stop) (.fork .stop .stop))))))))))))))) (V:=fun G R=>cP 142 [] [D.agg (gG g []),vi i] (vb (openF g i)) [] []∧vE g.h g.h∧vE g.w g.w∧g.B=g.B∧g.R=g.R∧g.L=g.L∧vE i i∧((!openF g i)=true→R (D.tup [vi 0,vb false],[],[]))∧((!openF g i)=false→g.w≠(0:Int)∧g.w≠(0:Int)∧(y==(0:Int))=false∧false=false∧false=false∧(y==(1:Int))=false∧false=false∧false=false∧(y==(2:Int))=false∧false=false∧false=false∧(y==(3:Int))=false∧false=false∧false=false∧(decide ((-1:Int)<0)=true→true=true∧R (D.tup [vi 0,vb false],[],[]))∧(decide ((-1:Int)<0)=false→(0:Int)≤(-1:Int)∧(-1:Int)< (↑g.B.length:Int)∧(g.B.getD 0 tB.dflt=true→R (D.tup [vi 0,vb false],[],[]))∧(g.B.getD 0 tB.dflt=false→R (D.tup [vi (-1),vb true],[],[]))))) hmG Tryd.func117 (by kernel_rfl) (by kernel_rfl) (fun G R=>by kernel_rfl) ?_;try dsimp only
 rcases Bool.eq_false_or_eq_true (openF g i) with ho|ho;rotate_left
 ·simp[ho,stepF];have:=d46 g i;rwa [ho] at this
 ·obtain⟨hc,i0,i1,hb⟩:=open_in ho;obtain⟨h1,w1,sz,_⟩:=chk0.1 hc;obtain⟨s1,s2,s3⟩:=size3 sz;have hw:=hw_in h1 w1;have hh:=side_iff.1 h1;have ww:=side_iff.1 w1;have e1:i.tmod g.w=i%g.w:=Int.tmod_eq_emod_of_nonneg i0;have e2:i.tdiv g.w=i/g.w:=Int.tdiv_eq_ediv_of_nonneg i0;have rr:=row_in ww.1 i0 i1;have r4:=right_in ww.1 i0 i1;have r5:=below_in ww.1 i0 i1;have r6:0≤i/g.w*g.w:=Int.mul_nonneg rr.1 (by omega);have r7:1≤i/g.w→g.w≤i/g.w*g.w:=fun h=>by have:=Int.mul_le_mul_of_nonneg_right h (show 0≤g.w by omega);omega
  simp only[stepF,ho,if_true];simp (disch:=omega) only[e1,e2,ho,oo,oop,oq,reduceCtorEq];repeat' first|with_reducible apply And.intro|intro _|rfl|omega|assumption|(have:=d46 g i;rwa [ho] at this)|(have q:i%g.w<g.w-1:=(by omega);simp[stepIn,stepTo,bAt,-List.getD_eq_getElem?_getD,-Int.pred_toNat,q, *];done)|(have q:¬i%g.w<g.w-1:=(by omega);simp[stepIn,stepTo,bAt,-List.getD_eq_getElem?_getD,-Int.pred_toNat,q, *];done)|(have q:i/g.w<g.h-1:=(by omega);simp[stepIn,stepTo,bAt,-List.getD_eq_getElem?_getD,-Int.pred_toNat,q, *];done)|(have q:¬i/g.w<g.h-1:=(by omega);simp[stepIn,stepTo,bAt,-List.getD_eq_getElem?_getD,-Int.pred_toNat,q, *];done)|(have q:0<i%g.w:=(by omega);simp[stepIn,stepTo,bAt,-List.getD_eq_getElem?_getD,-Int.pred_toNat,q, *];done)|(have q:¬0<i%g.w:=(by omega);simp[stepIn,stepTo,bAt,-List.getD_eq_getElem?_getD,-Int.pred_toNat,q, *];done)|(have q:0<i/g.w:=(by omega);simp[stepIn,stepTo,bAt,-List.getD_eq_getElem?_getD,-Int.pred_toNat,q, *];done)|(have q:¬0<i/g.w:=(by omega);simp[stepIn,stepTo,bAt,-List.getD_eq_getElem?_getD,-Int.pred_toNat,q, *];done)|(rw[step_off hy];done)|(simp[stepIn,stepTo,bAt,-List.getD_eq_getElem?_getD,-Int.pred_toNat, *];done)
theorem d38 (g:Gr) (i y:Int):Con Tryd.prog 117 [] [g.d,vi i,vi y] (.tup [vi (stepF g i y).1,vb (stepF g i y).2]) [] []:=by
 have:y=0∨y=1∨y=2∨y=3∨(y<0∨3<y):=by omega
 rcases this with rfl|rfl|rfl|rfl|h
 ·exact d38_0 g i
 ·exact d38_1 g i
 ·exact d38_2 g i
 ·exact d38_3 g i
 ·exact d38_4 g i y h
def vq3 (A:List Int) (B:List Int) (i:Int) (G:GT) (R:RT):Prop:=(decide (i<A.length)=true→0≤i∧i<A.length∧0≤i∧i<B.length∧((A.getD i.toNat tI.dflt !=B.getD i.toNat tI.dflt)=true→R (vb false,[],[]))∧((A.getD i.toNat tI.dflt !=B.getD i.toNat tI.dflt)=false→sK g41 0∧G 0 (stOf 26 [0,1,5] [sL tI A,sL tI B,vi (IntKind.i64.wrap (i+1))] [])))∧(decide (i<A.length)=false→R (vb true,[],[]))
theorem e41 (A B:List Int) (hl:A.length<4611686018427387904) (he:A.length=B.length) (m:Nat):∀(i:Int),0≤i→i+m=A.length→GetsK Tryd.prog Tryd.f23.results.toList [none] (KK g41) 0 (vb (decide (A.drop i.toNat=B.drop i.toNat)),[],[]) 0 (stOf 26 [0,1,5] [slI A,slI B,vi i] []):=by
 induction m with
 |zero=>
  intro i i0 im;refine gets_vc (spG true) (fun _=> [0,1,5]) (fun _=> []) 400 (.fork (.fork .stop (.hd 0)) .stop) (V:=vq3 A B i) hmG (fun G R=>by kernel_rfl) ?_;unfold vq3;try dsimp only
  try dsimp only
  simp (disch:=omega) only[oo,oop,oq,reduceCtorEq];repeat' first|with_reducible apply And.intro|intro _|omega|rw[drop_end (by omega) (by omega)]
 |succ m ih=>
  intro i i0 im;refine gets_vc (spG true) (fun _=> [0,1,5]) (fun _=> []) 400 (.fork (.fork .stop (.hd 0)) .stop) (V:=vq3 A B i) hmG (fun G R=>by kernel_rfl) ?_;unfold vq3;try dsimp only
  try dsimp only
  simp (disch:=omega) only[oo,oop,oq,reduceCtorEq];repeat' first|with_reducible apply And.intro|intro _|omega|(rw[drop_eq (0:Int) i0 (by omega) (by omega)];simp_all[-List.getD_eq_getElem?_getD];done)|(rename_i hq;rw[drop_eq (0:Int) i0 (by omega) (by omega),show decide (A.getD i.toNat (0:Int)=B.getD i.toNat (0:Int))=true from decide_eq_true hq,Bool.true_and];exact ih (i+1) (by omega) (by omega))
theorem d41 (A B:List Int) (hl:A.length<4611686018427387904):Con Tryd.prog 23 [] [slI A,slI B] (vb (decide (A=B))) [] []:=by
 refine con_vc (how:=[none]) (c:=g41) (K:=(KK g41)) (spG true) (fun _=> [0,1,5]) (fun _=> []) 400 (.fork .stop (.hd 0)) (V:=fun G R=>(((↑A.length:Int) !=(↑B.length:Int))=true→R (vb false,[],[]))∧(((↑A.length:Int) !=(↑B.length:Int))=false→sK g41 0∧G 0 (stOf 26 [0,1,5] [sL tI A,sL tI B,vi 0] []))) hmG Tryd.func23 (by kernel_rfl) (by kernel_rfl) (fun G R=>by kernel_rfl) ?_;try dsimp only
 by_cases he:A.length=B.length
 ·have:=e41 A B hl he A.length 0 (by omega) (by omega);simp[he,sameK_iff] at this⊢;exact this
 ·have hn:A≠B:=fun h=>he (by rw[h]);simp[hn];intro h;omega
theorem div_mod_of {w q r i:Int} (hr:0≤r) (hw:r<w) (h:i=q*w+r):i/w=q∧i%w=r:=by
 subst h;constructor
 ·rw[Int.add_comm,Int.add_mul_ediv_right _ _ (by omega),Int.ediv_eq_zero_of_lt hr hw];omega
 ·rw[Int.add_comm,Int.add_mul_emod_self_right,Int.emod_eq_of_lt hr hw]
theorem right_div {w i:Int} (w0:1≤w) (h:i%w<w-1):(i+1)/w=i/w∧(i+1)%w=i%w+1:=by
 have a:=Int.emod_nonneg i (show w≠0 by omega);have b:=Int.ediv_mul_add_emod i w;exact div_mod_of (by omega) (by omega) (by omega)
theorem left_div {w i:Int} (w0:1≤w) (h:0<i%w):(i-1)/w=i/w∧(i-1)%w=i%w-1:=by
 have a:=Int.emod_lt_of_pos i (show 0<w by omega);have b:=Int.ediv_mul_add_emod i w;exact div_mod_of (by omega) (by omega) (by omega)
theorem down_div {w i:Int} (w0:1≤w):(i+w)/w=i/w+1∧(i+w)%w=i%w:=by
 have a:=Int.emod_nonneg i (show w≠0 by omega);have c:=Int.emod_lt_of_pos i (show 0<w by omega);have b:=Int.ediv_mul_add_emod i w;exact div_mod_of (by omega) (by omega) (by rw[Int.add_mul];omega)
theorem up_div {w i:Int} (w0:1≤w):(i-w)/w=i/w-1∧(i-w)%w=i%w:=by
 have a:=Int.emod_nonneg i (show w≠0 by omega);have c:=Int.emod_lt_of_pos i (show 0<w by omega);have b:=Int.ediv_mul_add_emod i w;exact div_mod_of (by omega) (by omega) (by rw[Int.sub_mul];omega)
theorem stepTo_iff {g:Gr} {ok:Bool} {j k:Int}:stepTo g ok j=(k,true)↔ok=true∧bAt g.B j=false∧k=j:=by
 unfold stepTo;cases ok<;>cases bAt g.B j<;>simp[eq_comm]
theorem step_back {g:Gr} {i j y:Int} (ho:openF g i=true) (h:stepIn g i y=(j,true)):0≤y∧y<4∧openF g j=true∧stepIn g j ((y+2)%4)=(i,true):=by
 obtain⟨hc,i0,i1,hb⟩:=open_in ho;obtain⟨h1,w1,sz,_⟩:=chk0.1 hc;have ww:=side_iff.1 w1;have rr:=row_in ww.1 i0 i1;have r4:=right_in ww.1 i0 i1;have r5:=below_in ww.1 i0 i1;have r6:0≤i/g.w*g.w:=Int.mul_nonneg rr.1 (by omega);have r7:1≤i/g.w→g.w≤i/g.w*g.w:=fun h=>by have:=Int.mul_le_mul_of_nonneg_right h (show 0≤g.w by omega);omega
 have hopen:∀k,0≤k→k<g.h*g.w→bAt g.B k=false→openF g k=true:=fun k k0 k1 kb=>by rw[open_of hc k0 k1,kb];rfl
 by_cases y0:y=0
 ·subst y0;simp only[stepIn,if_true,stepTo_iff,Bool.and_eq_true,decide_eq_true_eq,Bool.not_eq_true'] at h;obtain⟨⟨a,b⟩,c,rfl⟩:=h;obtain⟨d1,d2⟩:=right_div ww.1 a;refine⟨by omega,by omega,hopen _ (by omega) (by omega) c,?_⟩;simp[stepIn,stepTo_iff,d2,hb,b];omega
 by_cases y1:y=1
 ·subst y1;simp only[stepIn,show ¬(1:Int)=0 by omega,if_true,if_false,stepTo_iff,Bool.and_eq_true,decide_eq_true_eq,Bool.not_eq_true'] at h;obtain⟨⟨a,b⟩,c,rfl⟩:=h;obtain⟨d1,d2⟩:=down_div (i:=i) ww.1;refine⟨by omega,by omega,hopen _ (by omega) (by omega) c,?_⟩;simp[stepIn,stepTo_iff,d1,hb,b];omega
 by_cases y2:y=2
 ·subst y2;simp only[stepIn,show ¬(2:Int)=0 by omega,show ¬(2:Int)=1 by omega,if_true,if_false,stepTo_iff,Bool.and_eq_true,decide_eq_true_eq,Bool.not_eq_true'] at h;obtain⟨⟨a,b⟩,c,rfl⟩:=h;obtain⟨d1,d2⟩:=left_div ww.1 a;refine⟨by omega,by omega,hopen _ (by omega) (by omega) c,?_⟩;simp[stepIn,stepTo_iff,d2,hb,b];omega
 by_cases y3:y=3
 ·subst y3;simp only[stepIn,show ¬(3:Int)=0 by omega,show ¬(3:Int)=1 by omega,show ¬(3:Int)=2 by omega,if_true,if_false,stepTo_iff,Bool.and_eq_true,decide_eq_true_eq,Bool.not_eq_true'] at h;obtain⟨⟨a,b⟩,c,rfl⟩:=h;obtain⟨d1,d2⟩:=up_div (i:=i) ww.1;refine⟨by omega,by omega,hopen _ (by omega) (by omega) c,?_⟩;simp[stepIn,stepTo_iff,d1,hb,b];omega
 ·simp[stepIn,y0,y1,y2,y3] at h
inductive Rch (g:Gr):Int→Int→Prop where
 |refl (i:Int):Rch g i i
 |tail {i j k:Int}:Rch g i j→k∈nearF g j→Rch g i k
def pAt (p:List Int) (i:Int):Int:=p.getD i.toNat (-1)
structure IsParts (g:Gr) (p:List Int) (n:Int):Prop where
 len:(p.length:Int)=g.h*g.w
 off:∀i,0≤i→i<g.h*g.w→openF g i=false→pAt p i= -1
 lo:∀i,openF g i=true→0≤pAt p i∧pAt p i<n
 same:∀i j,openF g i=true→openF g j=true→(pAt p i=pAt p j↔Rch g i j)
 first:∀i,openF g i=true→∀c,0≤c→c<pAt p i→∃i',0≤i'∧i'<i∧pAt p i'=c
 all:∀c,0≤c→c<n→∃i,openF g i=true∧pAt p i=c
 n0:0≤n
def Nb (h w p q:Int):Prop:=(0≤p∧p<h*w)∧(0≤q∧q<h*w)∧((q/w=p/w∧q%w=p%w+1)∨(q/w=p/w+1∧q%w=p%w))
def mnI (p q:Int):Int:=if q<p then q else p
def mxI (p q:Int):Int:=if q>p then q else p
def slotP (w p q:Int):Bool×Int:=(decide (mxI p q=mnI p q+1)&&decide ((mnI p q+1)%w≠0),mnI p q)
def bar0 (g:Gr) (p q:Int):Bool:=if q/g.w=p/g.w then bAt g.R p else bAt g.L p
def barAt (G:Gr) (p q:Int):Bool:=if(slotP G.w p q).1 then bAt G.R (slotP G.w p q).2 else bAt G.L (slotP G.w p q).2
structure Right (g:Gr):Prop where
 h1:1≤g.h∧g.h≤16
 w1:1≤g.w∧g.w≤16
 b:(g.B.length:Int)=g.h*g.w
 r:(g.R.length:Int)=g.h*g.w
 l:(g.L.length:Int)=g.h*g.w
 last:∀j,0≤j→j<g.h*g.w→bAt g.R j=true→j%g.w<g.w-1
 low:∀j,0≤j→j<g.h*g.w→bAt g.L j=true→j/g.w<g.h-1
 free:∀p q,Nb g.h g.w p q→bar0 g p q=true→bAt g.B p=false∧bAt g.B q=false
structure IsTurn (g:Gr) (k:Int) (G:Gr):Prop where
 h:G.h=hT g.h g.w k
 w:G.w=wT g.h g.w k
 b:(G.B.length:Int)=g.h*g.w
 r:(G.R.length:Int)=g.h*g.w
 l:(G.L.length:Int)=g.h*g.w
 cell:∀y,0≤y→y<g.h*g.w→bAt G.B (placeF g.h g.w y k)=bAt g.B y
 bar:∀p q,Nb g.h g.w p q→barAt G (placeF g.h g.w p k) (placeF g.h g.w q k)=bar0 g p q
 last:∀j,0≤j→j<g.h*g.w→¬j%G.w<G.w-1→bAt G.R j=false
 low:∀j,0≤j→j<g.h*g.w→¬j/G.w<G.h-1→bAt G.L j=false
def Gr.fits (g:Gr):Prop:=g.B.length≤140737488351232∧g.R.length≤140737488351232∧g.L.length≤140737488351232
theorem take_len {α:Type} (xs:List α):List.take xs.length (List.drop 0 xs)=xs:=by simp
def setR (c:Bool) (R:List Bool) (j:Int):List Bool:=if c then R.set j.toNat true else R
def putBar (G:Gr) (P Q:Int):Gr:=⟨G.h,G.w,G.B,setR (slotP G.w P Q).1 G.R (slotP G.w P Q).2,setR (!(slotP G.w P Q).1) G.L (slotP G.w P Q).2⟩
def putC (c:Bool) (G:Gr) (P Q:Int):Gr:=if c then putBar G P Q else G
def stepT (g:Gr) (k y:Int) (G:Gr):Gr:=
 putC (bAt g.L y) (putC (bAt g.R y) ⟨G.h,G.w,G.B.set (placeF g.h g.w y k).toNat (bAt g.B y),G.R,G.L⟩ (placeF g.h g.w y k) (placeF g.h g.w (y+1) k)) (placeF g.h g.w y k) (placeF g.h g.w (y+g.w) k)
def foldT (g:Gr) (k:Int):Nat→Int→Gr→Gr
 |0,_,G=>G
 |m+1,y,G=>foldT g k m (y+1) (stepT g k y G)
def blankG (h w:Int):Gr:=⟨h,w,List.replicate (h*w).toNat false,List.replicate (h*w).toNat false,List.replicate (h*w).toNat false⟩
def turnF (g:Gr) (k:Int):Gr:=foldT g k (g.h*g.w).toNat 0 (blankG (hT g.h g.w k) (wT g.h g.w k))
structure Part (g:Gr) (k x:Int) (G:Gr):Prop where
 h:G.h=hT g.h g.w k
 w:G.w=wT g.h g.w k
 b:(G.B.length:Int)=g.h*g.w
 r:(G.R.length:Int)=g.h*g.w
 l:(G.L.length:Int)=g.h*g.w
 cell:∀y,0≤y→y<x→bAt G.B (placeF g.h g.w y k)=bAt g.B y
 bar:∀p q,Nb g.h g.w p q→barAt G (placeF g.h g.w p k) (placeF g.h g.w q k)=(bar0 g p q&&decide (p<x))
 last:∀j,0≤j→j<g.h*g.w→¬j%G.w<G.w-1→bAt G.R j=false
 low:∀j,0≤j→j<g.h*g.w→¬j/G.w<G.h-1→bAt G.L j=false
def turnG (g:Gr) (k:Int):Gr×Int:=if isB k then if checkF g=0 then(turnF g k,0) else(⟨0,0,[],[],[]⟩,checkF g) else(⟨0,0,[],[],[]⟩,60)
def gRows (t:Gr):List Row:=[.data 4 .bool t.B,.data 4 .bool t.R,.data 4 .bool t.L]
def gOwn (t:Gr):D:=grOwn 0 t.h t.w t.B.length t.R.length t.L.length (fun _=>none)
def wholeB (rd:Nat→Option Row):D→Option (List Bool)
 | .sl _ _ .bool xs=>some xs
 | .v (.slice none 0 0)=>some []
 | .own id _ _ _=>match rd id with
  |some (.data _ .bool xs)=>some xs
  |_=>none
 |_=>none
def withW (rd:Nat→Option Row) (h w:Int) (b r l:D) (k:Gr→List Nat→Option Ann):Option Ann:=
 match wholeB rd b,wholeB rd r,wholeB rd l with
 |some B,some R,some L=>k ⟨h,w,B,R,L⟩ (refsDs [b,r,l])
 |_,_,_=>none
def spT:Sp:=fun f args rd=>match f,args with
 |87,[.v (.int _ i),.v (.int _ j),.ptr a _ _,.ptr b _ _,.ptr c _ _,.ptr d _ _]=>match rd a,rd b,rd c,rd d with
  |some (.box _ [.v (.int _ h),.v (.int _ w),bb,rr,ll]),some (.box _ [.v (.int _ k)]),some (.box _ [.v (.int _ w')]),some (.box _ [.v (.int _ H),.v (.int _ W),.own i1 _ n1 c1,.own i2 _ n2 c2,.own i3 _ n3 c3])=>
   match rd i1,rd i2,rd i3 with
   |some (.data 4 .bool B),some (.data 4 .bool R),some (.data 4 .bool L)=>withG rd h w bb rr ll fun g ls=>
    some {f:=87,pre:=[.box 46 [.v (.int .i64 H),.v (.int .i64 W),.own 1 0 n1 c1,.own 2 0 n2 c2,.own 3 0 n3 c3],.data 4 .bool B,.data 4 .bool R,.data 4 .bool L],args:=[.v (.int .i64 i),.v (.int .i64 j),.rptr [.v (.int .i64 g.h),.v (.int .i64 g.w),.sl false false .bool g.B,.sl false false .bool g.R,.sl false false .bool g.L],.rptr [.v (.int .i64 k)],.rptr [.v (.int .i64 w')],.ptr 0 0 0],val:= .tup [],post:=[some (.box 46 [.v (.int .i64 H),.v (.int .i64 W),.own 1 0 n1 c1,.own 2 0 n2 c2,.own 3 0 n3 c3]),some (.data 4 .bool B),some (.data 4 .bool (setR (slotP w' (placeF g.h g.w i k) (placeF g.h g.w j k)).1 R (slotP w' (placeF g.h g.w i k) (placeF g.h g.w j k)).2)),some (.data 4 .bool (setR (!(slotP w' (placeF g.h g.w i k) (placeF g.h g.w j k)).1) L (slotP w' (placeF g.h g.w i k) (placeF g.h g.w j k)).2))],cap:=[d,i1,i2,i3],lent:=a::b::c::ls}
   |_,_,_=>none
  |_,_,_,_=>none
 |51,[.agg [.v (.int _ h),.v (.int _ w),b,r,l],.v (.int _ k)]=>withW rd h w b r l fun g ls=>some {f:=51,args:=[g.d,.v (.int .i64 k)],val:= .tup [gOwn (turnG g k).1,.v (.int .i64 (turnG g k).2)],allocs:=gRows (turnG g k).1,lent:=ls}
 |44,[.agg [.v (.int _ h),.v (.int _ w),b,r,l]]=>withW rd h w b r l fun g ls=>some {f:=44,args:=[g.d],val:= .v (.int .i64 (checkF g)),lent:=ls}
 |43,[.agg [.v (.int _ h),.v (.int _ w),b,r,l],.agg [.v (.int _ h'),.v (.int _ w'),b',r',l']]=>withW rd h w b r l fun g ls=>withW rd h' w' b' r' l' fun g' ls'=>some {f:=43,args:=[g.d,g'.d],val:= .v (.bool (decide (g=g'))),lent:=ls++ls'}
 |f,args=>match sp f args rd with
  |some a=>some a
  |none=>spG true f args rd
def onT (g:Gr) (way:Int):Nat→Int→List Int
 |0,_=> []
 |m+1,i=>if(stepF g i way).2 then(stepF g i way).1::onT g way m (stepF g i way).1 else []
def runOn (g:Gr) (way i:Int):List Int:=i::onT g way 256 i
def headOf (g:Gr) (way:Int):Nat→Int→Int
 |0,i=>i
 |m+1,i=>if(stepF g i (way+2)).2 then headOf g way m (stepF g i (way+2)).1 else i
def beginsB (g:Gr) (i way:Int):Bool:= !(stepF g i (way+2)).2&&(stepF g i way).2
def slotsFrom (g:Gr):Nat→Int→Int→List (Int×Bool×List Int)
 |0,_,_=> []
 |m+1,i,num=>
  (if beginsB g i 0 then [(num+1,false,runOn g 0 i)] else [])++((if beginsB g i 1 then [(num+1,true,runOn g 1 i)] else [])++slotsFrom g m (i+1) (if beginsB g i 0||beginsB g i 1 then num+1 else num))
def slotsF (g:Gr):List (Int×Bool×List Int):=if checkF g=0 then slotsFrom g (g.h*g.w).toNat 0 0 else []
abbrev SlT:Ty:= .prod (.int .i64) (.prod .bool (.sl (.int .i64)))
def spL:Sp:=fun f args rd=>match f,args with
 |77,[.v (.int _ i),.v (.int _ way),.ptr a _ _]=>match rd a with
  |some (.box _ [.v (.int _ h),.v (.int _ w),b,r,l])=>withW rd h w b r l fun g ls=>some {f:=77,args:=[.v (.int .i64 i),.v (.int .i64 way),.rptr [.v (.int .i64 g.h),.v (.int .i64 g.w),.sl false false .bool g.B,.sl false false .bool g.R,.sl false false .bool g.L]],val:= .own 0 0 (runOn g way i).length none,allocs:=[.data 3 (.int .i64) (runOn g way i)],lent:=a::ls}
  |_=>none
 |36,[.agg [.v (.int _ h),.v (.int _ w),b,r,l]]=>withW rd h w b r l fun g ls=>some {f:=36,args:=[g.d],val:= .own 0 0 (slotsF g).length none,allocs:=[.data 50 SlT (slotsF g)],lent:=ls}
 |38,[.agg [.v (.int _ h),.v (.int _ w),b,r,l]]=>withW rd h w b r l fun g ls=>some {f:=38,args:=[g.d],val:= .own 0 0 (slotsF g).length none,allocs:=[.data 50 SlT (slotsF g)],lent:=ls}
 |81,[.agg [.v (.int _ h),.v (.int _ w),b,r,l],.v (.int _ i),.v (.bool d)]=>withW rd h w b r l fun g ls=>some {f:=81,args:=[g.d,.v (.int .i64 i),.v (.bool d)],val:= .own 0 0 (runOn g (if d then 1 else 0) (headOf g (if d then 1 else 0) 256 i)).length none,allocs:=[.data 3 (.int .i64) (runOn g (if d then 1 else 0) (headOf g (if d then 1 else 0) 256 i))],lent:=ls}
 |f,args=>spT f args rd
noncomputable def q105:=bd Tryd.f77
noncomputable def q65:=bd Tryd.f36
noncomputable def q100:=bd Tryd.f38
noncomputable def q125:=bd Tryd.f81
noncomputable def q77:=bd Tryd.f40
theorem stepTo_cases {g:Gr} {ok:Bool} {j:Int} (h:(stepTo g ok j).2=true):ok=true∧bAt g.B j=false∧(stepTo g ok j).1=j:=stepTo_iff.1 (show stepTo g ok j=((stepTo g ok j).1,true) from Prod.ext rfl h)|>fun⟨a,b,c⟩=>⟨a,b,c⟩
theorem step_facts {g:Gr} {i y:Int} (h:(stepF g i y).2=true):openF g i=true∧openF g (stepF g i y).1=true∧0≤y∧y<4∧(y<2→i< (stepF g i y).1)∧(2≤y→(stepF g i y).1<i)∧stepIn g i y=((stepF g i y).1,true):=by
 have ho:openF g i=true:=by
  rcases Bool.eq_false_or_eq_true (openF g i) with h'|h'
  ·exact h'
  ·rw[stepF,h'] at h;cases h
 have e:stepF g i y=stepIn g i y:=by rw[stepF,ho];rfl
 rw[e] at h⊢;have hs:stepIn g i y=((stepIn g i y).1,true):=Prod.ext rfl h;obtain⟨y0,y4,oj,_⟩:=step_back ho hs;obtain⟨hc,i0,i1,_⟩:=open_in ho;have ww:=side_iff.1 (chk0.1 hc).2.1;refine⟨ho,oj,y0,y4,fun hy=> ?_,fun hy=> ?_,hs⟩
 ·have:y=0∨y=1:=by omega
  rcases this with rfl|rfl
  ·simp only[stepIn,if_true] at h⊢;rw[(stepTo_cases h).2.2];omega
  ·simp only[stepIn,show ¬(1:Int)=0 by omega,if_true,if_false] at h⊢;rw[(stepTo_cases h).2.2];omega
 ·have:y=2∨y=3:=by omega
  rcases this with rfl|rfl
  ·simp only[stepIn,show ¬(2:Int)=0 by omega,show ¬(2:Int)=1 by omega,if_true,if_false] at h⊢;rw[(stepTo_cases h).2.2];omega
  ·simp only[stepIn,show ¬(3:Int)=0 by omega,show ¬(3:Int)=1 by omega,show ¬(3:Int)=2 by omega,if_true,if_false] at h⊢;rw[(stepTo_cases h).2.2];omega
theorem on_len (g:Gr) (way:Int):∀(m:Nat) (i:Int),(onT g way m i).length≤m
 |0,_=>by simp[onT]
 |m+1,i=>by
  simp only[onT];split
  ·have:=on_len g way m (stepF g i way).1;simp only[List.length_cons];omega
  ·simp
theorem take_snoc {α:Type} (ys:List α) (x:α):List.take (ys.length+1) (List.drop 0 (ys++List.take 1 (List.drop 0 [x])))=ys++[x]:=by
 rw[List.drop_zero];exact List.take_of_length_le (by simp)
theorem bytes86:Tryd.prog.bytesOf 50=40:=by kernel_rfl
theorem room86 {n:Nat} (h:n≤1000000):roomy Tryd.prog 50 n:=by
 unfold roomy;rw[bytes86];omega
theorem no_step {g:Gr} {i y:Int} (h:g.h*g.w≤i):(stepF g i y).2=false:=by
 rcases Bool.eq_false_or_eq_true (stepF g i y).2 with h'|h'
 ·have:=(open_in (step_facts h').1).2.2.1;omega
 ·exact h'
def vq4 (g:Gr) (y:Int) (i:Int) (xs:List Int) (G:GT) (R:RT):Prop:=cP 37 [] [D.agg (gG g []),vi i,vi y] (D.tup [vi (stepF g i y).fst,vb (stepF g i y).snd]) [] []∧gS g g (vE i i∧vE y y∧((!(stepF g i y).snd)=true→R (o0 0 xs.length,[],[Row.data 3 tI xs]))∧((!(stepF g i y).snd)=false→rM 3 (xs.length+1)∧sK q105 0∧G 0 (stOf 26 [0,1,2,6] [vi (stepF g i y).fst,vi y,D.rptr (gG g []),o0 0 (xs.length+1)] [lD 3 tI (List.take xs.length (List.drop 0 xs)++List.take 1 (List.drop 0 [(stepF g i y).fst]))])))
theorem e105 (g:Gr) (y:Int) (zs:List Int) (hy:y=0∨y=1) (m:Nat):m≤256→∀(i:Int) (xs:List Int),g.h*g.w-i≤m→xs.length+m≤300→xs++onT g y m i=zs→GetsK Tryd.prog Tryd.f77.results.toList [none] (KK q105) 0 (o0 0 zs.length,[],[.data 3 (.int .i64) zs]) 0 (stOf 26 [0,1,2,6] [vi i,vi y,.rptr (gG g []),o0 0 xs.length] [lD 3 (.int .i64) xs]):=by
 induction m with
 |zero=>
  intro hm i xs hi hl hz;have hn:=no_step (g:=g) (i:=i) (y:=y) (by omega);have c:=d37 g i y;rw[hn] at c;simp only[onT,List.append_nil] at hz;subst hz;refine gets_vc spL (fun _=> [0,1,2,6]) (fun k=>if k=0 then [⟨6,3,.int .i64⟩] else [⟨5,3,.int .i64⟩]) 400 (.fork .stop (.hd 0)) (V:=vq4 g y i xs) hmG (fun G R=>by kernel_rfl) ?_;unfold vq4;try dsimp only
  rw[hn];simp (disch:=omega) only[oo,oop,oq,reduceCtorEq];repeat' first|with_reducible apply And.intro|intro _|rfl|omega|assumption|trivial|(exfalso;simp_all;done)
 |succ m ih=>
  intro hm i xs hi hl hz;have c:=d37 g i y;simp only[onT] at hz;refine gets_vc spL (fun _=> [0,1,2,6]) (fun k=>if k=0 then [⟨6,3,.int .i64⟩] else [⟨5,3,.int .i64⟩]) 400 (.fork .stop (.hd 0)) (V:=vq4 g y i xs) hmG (fun G R=>by kernel_rfl) ?_;unfold vq4;try dsimp only
  simp only[take_len];rcases Bool.eq_false_or_eq_true (stepF g i y).2 with h|h<;>simp only[h,if_true,Bool.false_eq_true,if_false,List.append_nil] at hz
  ·have hf:=(step_facts h).2.2.2.2.1 (by omega);have hx:=ih (by omega) (stepF g i y).1 (xs++[(stepF g i y).1]) (by omega) (by simp;omega) (by rw[←hz];simp);rw[List.length_append] at hx;rw[h] at c⊢;simp (disch:=omega) only[oo,oop,oq,reduceCtorEq];repeat' first|with_reducible apply And.intro|intro _|rfl|omega|assumption|trivial|exact room3 (by omega)|(exfalso;simp_all;done)
  ·subst hz;rw[h] at c⊢;simp (disch:=omega) only[oo,oop,oq,reduceCtorEq];repeat' first|with_reducible apply And.intro|intro _|rfl|omega|assumption|trivial|exact room3 (by omega)|(exfalso;simp_all;done)
theorem d105 (g:Gr) (i y:Int) (hc:checkF g=0) (hy:y=0∨y=1) (i0:0≤i):Con Tryd.prog 77 [] [vi i,vi y,.rptr (gG g [])] ((o0 0 (runOn g y i).length)) [] [.data 3 (.int .i64) (runOn g y i)]:=by
 refine con_vc (how:=[none]) (c:=q105) (K:=(KK q105)) spL (fun _=> [0,1,2,6]) (fun k=>if k=0 then [⟨6,3,.int .i64⟩] else [⟨5,3,.int .i64⟩]) 400 (.hd 0) (V:=fun G R=>sK q105 0∧G 0 (stOf 26 [0,1,2,6] [vi i,vi y,D.rptr (gG g []),o0 0 1] [lD 3 tI [i]])) hmG Tryd.func77 (by kernel_rfl) (by kernel_rfl) (fun G R=>by kernel_rfl) ?_;try dsimp only
 have hw:=hw_in (chk0.1 hc).1 (chk0.1 hc).2.1;have hx:=e105 g y (runOn g y i) hy 256 (by omega) i [i] (by omega) (by simp) rfl;simp (disch:=omega) only[oo,oop,oq,reduceCtorEq];repeat' first|with_reducible apply And.intro|intro _|rfl|omega|assumption|trivial
def vq5 (g:Gr) (n:Nat) (i:Int) (num:Int) (ys:List (Int×Bool×List Int)) (G:GT) (R:RT):Prop:=let yy0:=(IntKind.i64.wrap ((0:Int)+1));let yy1:=(stOf 62 [1,3,4,5,19,20] [p0,o0 1 ys.length,D.fn 77 [p0],vi num,vi n,vi (IntKind.i64.wrap (i+1))] [lB 46 (gG g []),lD 50 tS ys]);let yy2:=(IntKind.i64.wrap (IntKind.i64.wrap ((0:Int)+1)+2));let yy3:=(stOf 62 [1,3,4,5,19,20] [p0,o0 1 (ys.length+1),D.fn 77 [p0],vi (IntKind.i64.wrap (num+1)),vi n,vi (IntKind.i64.wrap (i+1))] [lB 46 (gG g []),lD 50 tS (List.take ys.length (List.drop 0 ys)++List.take 1 (List.drop 0 [(IntKind.i64.wrap (num+1),IntKind.i64.wrap ((0:Int)+1)==(1:Int),List.take (runOn g yy0 i).length (List.drop 0 (runOn g yy0 i)))]))]);let yy4:=(stOf 62 [1,3,4,5,19,20] [p0,o0 1 (ys.length+1),D.fn 77 [p0],vi (IntKind.i64.wrap (num+1)),vi n,vi (IntKind.i64.wrap (i+1))] [lB 46 (gG g []),lD 50 tS (List.take ys.length (List.drop 0 ys)++List.take 1 (List.drop 0 [(IntKind.i64.wrap (num+1),(0:Int)==1,List.take (runOn g (0:Int) i).length (List.drop 0 (runOn g (0:Int) i)))]))]);let yy5:=(IntKind.i64.wrap (IntKind.i64.wrap ((0:Int)+1)+1)< (2:Int));let yy6:=(Value.int .i64 g.h);let yy7:=(Value.int .i64 g.w);let yy8:=(Value.int .i64 i);let yy9:=(IntKind.i64.wrap ((0:Int)+2));(decide (i<n)=true→decide ((0:Int)<2)=true∧cP 37 [] [D.agg [D.v yy6,D.v yy7,sL tB g.B,sL tB g.R,sL tB g.L],D.v yy8,vi yy9] (D.tup [vi (stepF g i yy9).fst,vb (stepF g i yy9).snd]) [] []∧gS g g (vE i i∧vE yy9 yy9∧((stepF g i yy9).snd=true→decide (IntKind.i64.wrap ((0:Int)+1)< (2:Int))=true∧cP 37 [] [D.agg [D.v yy6,D.v yy7,sL tB g.B,sL tB g.R,sL tB g.L],D.v yy8,vi yy2] (D.tup [vi (stepF g i yy2).fst,vb (stepF g i yy2).snd]) [] []∧gS g g (vE i i∧vE yy2 yy2∧((stepF g i yy2).snd=true→decide yy5=false∧sK q65 0∧G 0 yy1)∧((stepF g i yy2).snd=false→cP 37 [] [D.agg [D.v yy6,D.v yy7,sL tB g.B,sL tB g.R,sL tB g.L],D.v yy8,vi yy0] (D.tup [vi (stepF g i yy0).fst,vb (stepF g i yy0).snd]) [] []∧gS g g (vE i i∧vE yy0 yy0∧((!(stepF g i yy0).snd)=true→decide yy5=false∧sK q65 0∧G 0 yy1)∧((!(stepF g i yy0).snd)=false→(!false)=true∧cP 77 [] [D.v yy8,vi yy0,D.rptr [D.v yy6,D.v yy7,sL tB g.B,sL tB g.R,sL tB g.L]] (o0 0 (runOn g yy0 i).length) [] [Row.data 3 tI (runOn g yy0 i)]∧vE i i∧vE yy0 yy0∧gS g g (rM 50 (ys.length+1)∧decide yy5=false∧sK q65 0∧G 0 yy3))))))∧((stepF g i yy9).snd=false→cP 37 [] [D.agg [D.v yy6,D.v yy7,sL tB g.B,sL tB g.R,sL tB g.L],D.v yy8,vi 0] (D.tup [vi (stepF g i (0:Int)).fst,vb (stepF g i (0:Int)).snd]) [] []∧gS g g (vE i i∧vE (0:Int) (0:Int)∧((!(stepF g i (0:Int)).snd)=true→decide (IntKind.i64.wrap ((0:Int)+1)< (2:Int))=true∧cP 37 [] [D.agg [D.v yy6,D.v yy7,sL tB g.B,sL tB g.R,sL tB g.L],D.v yy8,vi yy2] (D.tup [vi (stepF g i yy2).fst,vb (stepF g i yy2).snd]) [] []∧gS g g (vE i i∧vE yy2 yy2∧((stepF g i yy2).snd=true→decide yy5=false∧sK q65 0∧G 0 yy1)∧((stepF g i yy2).snd=false→cP 37 [] [D.agg [D.v yy6,D.v yy7,sL tB g.B,sL tB g.R,sL tB g.L],D.v yy8,vi yy0] (D.tup [vi (stepF g i yy0).fst,vb (stepF g i yy0).snd]) [] []∧gS g g (vE i i∧vE yy0 yy0∧((!(stepF g i yy0).snd)=true→decide yy5=false∧sK q65 0∧G 0 yy1)∧((!(stepF g i yy0).snd)=false→(!false)=true∧cP 77 [] [D.v yy8,vi yy0,D.rptr [D.v yy6,D.v yy7,sL tB g.B,sL tB g.R,sL tB g.L]] (o0 0 (runOn g yy0 i).length) [] [Row.data 3 tI (runOn g yy0 i)]∧vE i i∧vE yy0 yy0∧gS g g (rM 50 (ys.length+1)∧decide yy5=false∧sK q65 0∧G 0 yy3))))))∧((!(stepF g i (0:Int)).snd)=false→(!false)=true∧cP 77 [] [D.v yy8,vi 0,D.rptr [D.v yy6,D.v yy7,sL tB g.B,sL tB g.R,sL tB g.L]] (o0 0 (runOn g (0:Int) i).length) [] [Row.data 3 tI (runOn g (0:Int) i)]∧vE i i∧vE (0:Int) (0:Int)∧gS g g (rM 50 (ys.length+1)∧decide (IntKind.i64.wrap ((0:Int)+1)< (2:Int))=true∧cP 37 [] [D.agg [D.v yy6,D.v yy7,sL tB g.B,sL tB g.R,sL tB g.L],D.v yy8,vi yy2] (D.tup [vi (stepF g i yy2).fst,vb (stepF g i yy2).snd]) [] []∧gS g g (vE i i∧vE yy2 yy2∧((stepF g i yy2).snd=true→decide yy5=false∧sK q65 0∧G 0 yy4)∧((stepF g i yy2).snd=false→cP 37 [] [D.agg [D.v yy6,D.v yy7,sL tB g.B,sL tB g.R,sL tB g.L],D.v yy8,vi yy0] (D.tup [vi (stepF g i yy0).fst,vb (stepF g i yy0).snd]) [] []∧gS g g (vE i i∧vE yy0 yy0∧((!(stepF g i yy0).snd)=true→decide yy5=false∧sK q65 0∧G 0 yy4)∧((!(stepF g i yy0).snd)=false→(!true)=false∧cP 77 [] [D.v yy8,vi yy0,D.rptr [D.v yy6,D.v yy7,sL tB g.B,sL tB g.R,sL tB g.L]] (o0 0 (runOn g yy0 i).length) [] [Row.data 3 tI (runOn g yy0 i)]∧vE i i∧vE yy0 yy0∧gS g g (rM 50 (ys.length+1+1)∧decide yy5=false∧sK q65 0∧G 0 (stOf 62 [1,3,4,5,19,20] [p0,o0 1 (ys.length+1+1),D.fn 77 [p0],vi (IntKind.i64.wrap (num+1)),vi n,vi (IntKind.i64.wrap (i+1))] [lB 46 [D.v yy6,D.v yy7,sL tB g.B,sL tB g.R,sL tB g.L],lD 50 tS (List.take (ys.length+1) (List.drop 0 (List.take ys.length (List.drop 0 ys)++List.take 1 (List.drop 0 [(IntKind.i64.wrap (num+1),(0:Int)==1,List.take (runOn g (0:Int) i).length (List.drop 0 (runOn g (0:Int) i)))])))++List.take 1 (List.drop 0 [(IntKind.i64.wrap (num+1),IntKind.i64.wrap ((0:Int)+1)==(1:Int),List.take (runOn g yy0 i).length (List.drop 0 (runOn g yy0 i)))]))]))))))))))))∧(decide (i<n)=false→R (o0 0 ys.length,[],[Row.data 50 tS ys]))
theorem e65 (g:Gr) (n:Nat) (zs:List (Int×Bool×List Int)) (hc:checkF g=0) (hn:(n:Int)=g.h*g.w) (m:Nat):∀(i num:Int) (ys:List (Int×Bool×List Int)),0≤i→i+m=g.h*g.w→0≤num→num≤i→ys.length≤2*i→ys++slotsFrom g m i num=zs→GetsK Tryd.prog Tryd.f36.results.toList [none] (KK q65) 0 (o0 0 zs.length,[],[.data 50 SlT zs]) 0 (stOf 62 [1,3,4,5,19,20] [.ptr 0 0 0,o0 1 ys.length,.fn 77 [.ptr 0 0 0],vi num,vi n,vi i] [lB 46 (gG g []),lD 50 SlT ys]):=by
 have hw:=hw_in (chk0.1 hc).1 (chk0.1 hc).2.1;induction m with
 |zero=>
  intro i num ys i0 im n0 ni yl hz;simp only[slotsFrom,List.append_nil] at hz;subst hz;refine gets_vc spL (fun _=> [1,3,4,5,19,20]) (fun k=>if k=0 then [⟨3,50,SlT⟩] else [⟨2,50,SlT⟩]) 400 (.fork (.go (.t (.fork (.go (.t (.fork (.go (.f (.hd 0))) (.fork (.go (.f (.hd 0))) (.t (.go (.f (.hd 0)))))))) (.fork (.go (.t (.fork (.go (.f (.hd 0))) (.fork (.go (.f (.hd 0))) (.t (.go (.f (.hd 0)))))))) (.t (.go (.t (.fork (.go (.f (.hd 0))) (.fork (.go (.f (.hd 0))) (.f (.go (.f (.hd 0))))))))))))) .stop) (V:=vq5 g n i num ys) hmG (fun G R=>by kernel_rfl) ?_;unfold vq5;try dsimp only
  constructor
  ·intro h;rw[decide_eq_true_eq] at h;omega
  ·intro _;rfl
 |succ m ih=>
  intro i num ys i0 im n0 ni yl hz;have c0:=d37 g i 0;have c1:=d37 g i 1;have c2:=d37 g i 2;have c3:=d37 g i 3;have r0:=d105 g i 0 hc (.inl rfl) i0;have r1:=d105 g i 1 hc (.inr rfl) i0;simp only[slotsFrom,beginsB,show(0:Int)+2=2 by rfl,show(1:Int)+2=3 by rfl] at hz;have l1:∀(a:Int×Bool×List Int),((ys++[a]).length:Int)≤2*(i+1):=fun a=>by simp;omega
  have l2:∀(a b:Int×Bool×List Int),((ys++[a]++[b]).length:Int)≤2*(i+1):=fun a b=>by simp;omega
  refine gets_vc spL (fun _=> [1,3,4,5,19,20]) (fun k=>if k=0 then [⟨3,50,SlT⟩] else [⟨2,50,SlT⟩]) 400 (.fork (.go (.t (.fork (.go (.t (.fork (.go (.f (.hd 0))) (.fork (.go (.f (.hd 0))) (.t (.go (.f (.hd 0)))))))) (.fork (.go (.t (.fork (.go (.f (.hd 0))) (.fork (.go (.f (.hd 0))) (.t (.go (.f (.hd 0)))))))) (.t (.go (.t (.fork (.go (.f (.hd 0))) (.fork (.go (.f (.hd 0))) (.f (.go (.f (.hd 0))))))))))))) .stop) (V:=vq5 g n i num ys) hmG (fun G R=>by kernel_rfl) ?_;unfold vq5;try dsimp only
  simp only[take_len,show IntKind.i64.wrap (0+2)=2 by decide,show IntKind.i64.wrap (0+1)=1 by decide,show IntKind.i64.wrap (1+2)=3 by decide,show IntKind.i64.wrap (IntKind.i64.wrap (0+1)+1)=2 by decide,show IntKind.i64.wrap (IntKind.i64.wrap (0+1)+2)=3 by decide];have hA:=ih (i+1) num ys (by omega) (by omega) n0 (by omega) (by omega);have hB:=ih (i+1) (num+1) (ys++[(num+1,false,runOn g 0 i)]) (by omega) (by omega) (by omega) (by omega) (l1 _);have hC:=ih (i+1) (num+1) (ys++[(num+1,true,runOn g 1 i)]) (by omega) (by omega) (by omega) (by omega) (l1 _);have hD:=ih (i+1) (num+1) (ys++[(num+1,false,runOn g 0 i)]++[(num+1,true,runOn g 1 i)]) (by omega) (by omega) (by omega) (by omega) (l2 _ _);simp only[List.length_append,List.length_cons,List.length_nil,Nat.zero_add] at hB hC hD;rcases Bool.eq_false_or_eq_true (stepF g i 0).2 with a0|a0<;>rcases Bool.eq_false_or_eq_true (stepF g i 1).2 with a1|a1<;>rcases Bool.eq_false_or_eq_true (stepF g i 2).2 with a2|a2<;>rcases Bool.eq_false_or_eq_true (stepF g i 3).2 with a3|a3<;>
  rw[a0] at c0<;>rw[a1] at c1<;>rw[a2] at c2<;>rw[a3] at c3<;>
  simp only[a0,a1,a2,a3,Bool.not_true,Bool.not_false,Bool.true_and,Bool.false_and,Bool.and_true,Bool.and_false,if_true,Bool.false_eq_true,if_false,List.nil_append,Bool.or_true,Bool.true_or,Bool.or_false] at hz⊢ <;>
  (
   simp (disch:=omega) only[List.nil_append,take_snoc,oo,oop,oq,reduceCtorEq];repeat' first|with_reducible apply And.intro|intro _|rfl|omega|assumption|trivial|exact hA hz|exact hB (by rw[←hz];simp)|exact hC (by rw[←hz];simp)|exact hD (by rw[←hz];simp)|exact room86 (by omega)|(exfalso;simp_all;done)|skip)
theorem d65 (g:Gr):Con Tryd.prog 36 [] [g.d] ((o0 0 (slotsF g).length)) [] [.data 50 SlT (slotsF g)]:=by
 refine con_vc (how:=[none]) (c:=q65) (K:=(KK q65)) spL (fun _=> [1,3,4,5,19,20]) (fun k=>if k=0 then [⟨3,50,SlT⟩] else [⟨2,50,SlT⟩]) 400 (.fork .stop (.hd 0)) (V:=fun G R=>cP 44 [] [D.agg (gG g [])] (vi (checkF g)) [] []∧gS g g (((checkF g !=0)=true→R (o0 0 0,[],[Row.data 50 tS []]))∧((checkF g !=0)=false→sK q65 0∧G 0 (stOf 62 [1,3,4,5,19,20] [p0,o0 1 0,D.fn 77 [p0],vi 0,vi g.B.length,vi 0] [lB 46 (gG g []),lD 50 tS []])))) hmG Tryd.func36 (by kernel_rfl) (by kernel_rfl) (fun G R=>by kernel_rfl) ?_;try dsimp only
 have c:=d43 g;by_cases hc:checkF g=0
 ·have hw:=hw_in (chk0.1 hc).1 (chk0.1 hc).2.1;have sz:=size3 (chk0.1 hc).2.2.1;have e:slotsF g=slotsFrom g (g.h*g.w).toNat 0 0:=if_pos hc;rw[e];have hx:=e65 g g.B.length _ hc (by omega) (g.h*g.w).toNat 0 0 [] (by omega) (by omega) (by omega) (by omega) (by simp) (by simp;rfl);rw[hc] at c⊢;simp (disch:=omega) only[oo,oop,oq,reduceCtorEq];repeat' first|with_reducible apply And.intro|intro _|rfl|omega|assumption|trivial|(exfalso;simp_all;done)
 ·have e:slotsF g=[]:=if_neg hc;rw[e];simp (disch:=omega) only[oo,oop,oq,reduceCtorEq];repeat' first|with_reducible apply And.intro|intro _|rfl|omega|assumption|trivial|(exfalso;simp_all;done)
theorem head_facts {g:Gr} {y:Int} (hy:y=0∨y=1):∀(m:Nat) (i:Int),0≤i→0≤headOf g y m i∧headOf g y m i≤i
 |0,i,i0=>by simp[headOf,i0]
 |m+1,i,i0=>by
  simp only[headOf];split
  ·rename_i h;have hf:=step_facts h;have hj:=open_in hf.2.1;have:=head_facts (g:=g) hy m (stepF g i (y+2)).1 hj.2.1;have:=hf.2.2.2.2.2.1 (by omega);omega
  ·omega
theorem head_iff {g:Gr} {y i:Int} (hy:y=0∨y=1) (i0:0≤i):(headOf g y 256 i==i)= !(stepF g i (y+2)).2:=by
 rcases Bool.eq_false_or_eq_true (stepF g i (y+2)).2 with h|h
 ·have hf:=step_facts h;have hj:=open_in hf.2.1;have h1:=head_facts (g:=g) hy 255 (stepF g i (y+2)).1 hj.2.1;have h2:=hf.2.2.2.2.2.1 (by omega);have e:headOf g y 256 i=headOf g y 255 (stepF g i (y+2)).1:=by
   show(if _ then _ else _)=_;rw[if_pos h]
  rw[h,e];simp only[Bool.not_true,beq_eq_false_iff_ne,ne_eq];omega
 ·have e:headOf g y 256 i=i:=by
   show(if _ then _ else _)=_;rw[h];rfl
  rw[h,e];simp
theorem run_pos (g:Gr) (y h:Int):0< (runOn g y h).length:=by simp[runOn]
theorem run_posI (g:Gr) (y h:Int):(0:Int)< ((runOn g y h).length:Int):=by have:=run_pos g y h;omega
theorem run_long {g:Gr} {y i:Int}:decide (((runOn g y i).length:Int)>1)=(stepF g i y).2:=by
 rcases Bool.eq_false_or_eq_true (stepF g i y).2 with h|h
 ·rw[h];have e:onT g y 256 i=(stepF g i y).1::onT g y 255 (stepF g i y).1:=by
   show(if _ then _ else _)=_;rw[if_pos h]
  refine decide_eq_true ?_;unfold runOn;rw[e];simp only[List.length_cons];omega
 ·rw[h];have e:onT g y 256 i=[]:=by
   show(if _ then _ else _)=_;rw[h];rfl
  refine decide_eq_false ?_;unfold runOn;rw[e];simp
theorem e125_1f (g:Gr) (i y:Int) (xs:List Int):GetsK Tryd.prog Tryd.f81.results.toList [none] (KK q125) 0 (o0 0 xs.length,[],[.data 3 (.int .i64) xs]) 1 (stOf 40 [1,3,7,11,12] [vi i,.ptr 0 0 0,vi y,o0 1 xs.length,vb false] [lB 46 (gG g []),lD 3 (.int .i64) xs]):=by
 refine gets_vc spL (fun k=> [[1,3,7,8,9],[1,3,7,11,12]].getD k []) (fun k=>if k=1 then [⟨11,3,.int .i64⟩] else if k=99 then [⟨6,3,.int .i64⟩] else []) 400 (.fork (.fork (.hd 1) (.hd 1)) .stop) (V:=fun G R=>let yy0:=(Row.box 46 (gG g []));let yy1:=(Value.int .i64 (stepF g i y).fst);(false=true→cP 117 [] [D.agg (gG g []),vi i,vi y] (D.tup [D.v yy1,vb (stepF g i y).snd]) [] []∧gS g g (vE i i∧vE y y∧((stepF g i y).snd=true→rM 3 (xs.length+1)∧sK q125 1∧G 1 (stOf 40 [1,3,7,11,12] [D.v yy1,p0,vi y,o0 1 (xs.length+1),vb (stepF g i y).snd] [Slot.live yy0,lD 3 tI (List.take xs.length (List.drop 0 xs)++List.take 1 (List.drop 0 [(stepF g i y).fst]))]))∧((stepF g i y).snd=false→sK q125 1∧G 1 (stOf 40 [1,3,7,11,12] [D.v yy1,p0,vi y,o0 1 xs.length,vb (stepF g i y).snd] [Slot.live yy0,lD 3 tI xs]))))∧(false=false→R (o0 0 xs.length,[],[Row.data 3 tI xs]))) hmG (fun G R=>by kernel_rfl) ?_
 try dsimp only
 simp (disch:=omega) only[oo,oop,oq,reduceCtorEq];repeat' first|with_reducible apply And.intro|intro _|rfl|omega|assumption|trivial|exact room3 (by omega)|(exfalso;simp_all;done)
def vq6 (g:Gr) (y:Int) (i:Int) (xs:List Int) (G:GT) (R:RT):Prop:=let yy0:=(Row.box 46 (gG g []));let yy1:=(Value.int .i64 (stepF g i y).fst);(true=true→cP 117 [] [D.agg (gG g []),vi i,vi y] (D.tup [D.v yy1,vb (stepF g i y).snd]) [] []∧gS g g (vE i i∧vE y y∧((stepF g i y).snd=true→rM 3 (xs.length+1)∧sK q125 1∧G 1 (stOf 40 [1,3,7,11,12] [D.v yy1,p0,vi y,o0 1 (xs.length+1),vb (stepF g i y).snd] [Slot.live yy0,lD 3 tI (List.take xs.length (List.drop 0 xs)++List.take 1 (List.drop 0 [(stepF g i y).fst]))]))∧((stepF g i y).snd=false→sK q125 1∧G 1 (stOf 40 [1,3,7,11,12] [D.v yy1,p0,vi y,o0 1 xs.length,vb (stepF g i y).snd] [Slot.live yy0,lD 3 tI xs]))))∧(true=false→R (o0 0 xs.length,[],[Row.data 3 tI xs]))
theorem e125_1 (g:Gr) (y:Int) (zs:List Int) (hy:y=0∨y=1) (m:Nat):m≤256→∀(i:Int) (xs:List Int),g.h*g.w-i≤m→xs.length+m≤300→xs++onT g y m i=zs→GetsK Tryd.prog Tryd.f81.results.toList [none] (KK q125) 0 (o0 0 zs.length,[],[.data 3 (.int .i64) zs]) 1 (stOf 40 [1,3,7,11,12] [vi i,.ptr 0 0 0,vi y,o0 1 xs.length,vb true] [lB 46 (gG g []),lD 3 (.int .i64) xs]):=by
 induction m with
 |zero=>
  intro hm i xs hi hl hz;have hn:=no_step (g:=g) (i:=i) (y:=y) (by omega);have c:=d38 g i y;rw[hn] at c;simp only[onT,List.append_nil] at hz;subst hz;have hx:=e125_1f g (stepF g i y).1 y xs;refine gets_vc spL (fun k=> [[1,3,7,8,9],[1,3,7,11,12]].getD k []) (fun k=>if k=1 then [⟨11,3,.int .i64⟩] else if k=99 then [⟨6,3,.int .i64⟩] else []) 400 (.fork (.fork (.hd 1) (.hd 1)) .stop) (V:=vq6 g y i xs) hmG (fun G R=>by kernel_rfl) ?_;unfold vq6;try dsimp only
  rw[hn];simp (disch:=omega) only[oo,oop,oq,reduceCtorEq];repeat' first|with_reducible apply And.intro|intro _|rfl|omega|assumption|trivial|exact room3 (by omega)|(exfalso;simp_all;done)
 |succ m ih=>
  intro hm i xs hi hl hz;have c:=d38 g i y;simp only[onT] at hz;refine gets_vc spL (fun k=> [[1,3,7,8,9],[1,3,7,11,12]].getD k []) (fun k=>if k=1 then [⟨11,3,.int .i64⟩] else if k=99 then [⟨6,3,.int .i64⟩] else []) 400 (.fork (.fork (.hd 1) (.hd 1)) .stop) (V:=vq6 g y i xs) hmG (fun G R=>by kernel_rfl) ?_;unfold vq6;try dsimp only
  simp only[take_len];rcases Bool.eq_false_or_eq_true (stepF g i y).2 with h|h<;>simp only[h,if_true,Bool.false_eq_true,if_false,List.append_nil] at hz
  ·have hf:=(step_facts h).2.2.2.2.1 (by omega);have hx:=ih (by omega) (stepF g i y).1 (xs++[(stepF g i y).1]) (by omega) (by simp;omega) (by rw[←hz];simp);rw[List.length_append] at hx;rw[h] at c⊢;simp (disch:=omega) only[oo,oop,oq,reduceCtorEq];repeat' first|with_reducible apply And.intro|intro _|rfl|omega|assumption|trivial|exact room3 (by omega)|(exfalso;simp_all;done)
  ·subst hz;have hx:=e125_1f g (stepF g i y).1 y xs;rw[h] at c⊢;simp (disch:=omega) only[oo,oop,oq,reduceCtorEq];repeat' first|with_reducible apply And.intro|intro _|rfl|omega|assumption|trivial|exact room3 (by omega)|(exfalso;simp_all;done)
theorem e125_0f (g:Gr) (i y b:Int) (hc:checkF g=0) (hy:y=0∨y=1) (i0:0≤i):GetsK Tryd.prog Tryd.f81.results.toList [none] (KK q125) 0 (o0 0 (runOn g y i).length,[],[.data 3 (.int .i64) (runOn g y i)]) 0 (stOf 40 [1,3,7,8,9] [vi i,.ptr 0 0 0,vi y,vi b,vb false] [lB 46 (gG g [])]):=by
 have hw:=hw_in (chk0.1 hc).1 (chk0.1 hc).2.1;have hx:=e125_1 g y (runOn g y i) hy 256 (by omega) i [i] (by omega) (by simp) rfl;refine gets_vc spL (fun k=> [[1,3,7,8,9],[1,3,7,11,12]].getD k []) (fun k=>if k=1 then [⟨11,3,.int .i64⟩] else if k=99 then [⟨6,3,.int .i64⟩] else []) 400 (.fork (.fork (.hd 0) (.hd 0)) (.hd 1)) (V:=fun G R=>let yy0:=(Row.box 46 (gG g []));(false=true→cP 117 [] [D.agg (gG g []),vi i,vi b] (D.tup [vi (stepF g i b).fst,vb (stepF g i b).snd]) [] []∧gS g g (vE i i∧vE b b∧((stepF g i b).snd=true→sK q125 0∧G 0 (stOf 40 [1,3,7,8,9] [vi (stepF g i b).fst,p0,vi y,vi b,vb (stepF g i b).snd] [Slot.live yy0]))∧((stepF g i b).snd=false→sK q125 0∧G 0 (stOf 40 [1,3,7,8,9] [vi i,p0,vi y,vi b,vb (stepF g i b).snd] [Slot.live yy0]))))∧(false=false→sK q125 1∧G 1 (stOf 40 [1,3,7,11,12] [vi i,p0,vi y,o0 1 1,vb true] [Slot.live yy0,lD 3 tI [i]]))) hmG (fun G R=>by kernel_rfl) ?_
 try dsimp only
 simp (disch:=omega) only[oo,oop,oq,reduceCtorEq];repeat' first|with_reducible apply And.intro|intro _|rfl|omega|assumption|trivial|exact room3 (by omega)|(exfalso;simp_all;done)
def vq7 (g:Gr) (y:Int) (i:Int) (G:GT) (R:RT):Prop:=let yy0:=(Row.box 46 (gG g []));let yy1:=(stepF g i (y+2));let yy2:=(Value.int .i64 (y+2));(true=true→cP 117 [] [D.agg (gG g []),vi i,D.v yy2] (D.tup [vi yy1.fst,vb yy1.snd]) [] []∧gS g g (vE i i∧vE (y+2) (y+2)∧(yy1.snd=true→sK q125 0∧G 0 (stOf 40 [1,3,7,8,9] [vi yy1.fst,p0,vi y,D.v yy2,vb yy1.snd] [Slot.live yy0]))∧(yy1.snd=false→sK q125 0∧G 0 (stOf 40 [1,3,7,8,9] [vi i,p0,vi y,D.v yy2,vb yy1.snd] [Slot.live yy0]))))∧(true=false→sK q125 1∧G 1 (stOf 40 [1,3,7,11,12] [vi i,p0,vi y,o0 1 1,vb true] [Slot.live yy0,lD 3 tI [i]]))
theorem e125_0 (g:Gr) (y b:Int) (zs:List Int) (hc:checkF g=0) (hy:y=0∨y=1) (hb:b=y+2) (m:Nat):∀(i:Int),0≤i→i≤m→runOn g y (headOf g y m i)=zs→GetsK Tryd.prog Tryd.f81.results.toList [none] (KK q125) 0 (o0 0 zs.length,[],[.data 3 (.int .i64) zs]) 0 (stOf 40 [1,3,7,8,9] [vi i,.ptr 0 0 0,vi y,vi b,vb true] [lB 46 (gG g [])]):=by
 subst hb;induction m with
 |zero=>
  intro i i0 hi hz;have hn:(stepF g i (y+2)).2=false:=by
   rcases Bool.eq_false_or_eq_true (stepF g i (y+2)).2 with h|h
   ·have hf:=step_facts h;have h1:=(open_in hf.2.1).2.1;have h2:=hf.2.2.2.2.2.1 (by omega);omega
   ·exact h
  have c:=d38 g i (y+2);rw[hn] at c;simp only[headOf] at hz;subst hz;have hx:=e125_0f g i y (y+2) hc hy i0;refine gets_vc spL (fun k=> [[1,3,7,8,9],[1,3,7,11,12]].getD k []) (fun k=>if k=1 then [⟨11,3,.int .i64⟩] else if k=99 then [⟨6,3,.int .i64⟩] else []) 400 (.fork (.fork (.hd 0) (.hd 0)) (.hd 1)) (V:=vq7 g y i) hmG (fun G R=>by kernel_rfl) ?_;unfold vq7;try dsimp only
  rw[hn];simp (disch:=omega) only[oo,oop,oq,reduceCtorEq];repeat' first|with_reducible apply And.intro|intro _|rfl|omega|assumption|trivial|exact room3 (by omega)|(exfalso;simp_all;done)
 |succ m ih=>
  intro i i0 hi hz;have c:=d38 g i (y+2);simp only[headOf] at hz;refine gets_vc spL (fun k=> [[1,3,7,8,9],[1,3,7,11,12]].getD k []) (fun k=>if k=1 then [⟨11,3,.int .i64⟩] else if k=99 then [⟨6,3,.int .i64⟩] else []) 400 (.fork (.fork (.hd 0) (.hd 0)) (.hd 1)) (V:=vq7 g y i) hmG (fun G R=>by kernel_rfl) ?_;unfold vq7;try dsimp only
  rcases Bool.eq_false_or_eq_true (stepF g i (y+2)).2 with h|h<;>simp only[h,if_true,Bool.false_eq_true,if_false] at hz
  ·have hf:=step_facts h;have h1:=(open_in hf.2.1).2.1;have h2:=hf.2.2.2.2.2.1 (by omega);have hx:=ih (stepF g i (y+2)).1 h1 (by omega) hz;rw[h] at c⊢;simp (disch:=omega) only[oo,oop,oq,reduceCtorEq];repeat' first|with_reducible apply And.intro|intro _|rfl|omega|assumption|trivial|exact room3 (by omega)|(exfalso;simp_all;done)
  ·subst hz;have hx:=e125_0f g i y (y+2) hc hy i0;rw[h] at c⊢;simp (disch:=omega) only[oo,oop,oq,reduceCtorEq];repeat' first|with_reducible apply And.intro|intro _|rfl|omega|assumption|trivial|exact room3 (by omega)|(exfalso;simp_all;done)
theorem d125 (g:Gr) (i:Int) (d:Bool) (hc:checkF g=0) (i0:0≤i) (hi:i≤256):Con Tryd.prog 81 [] [g.d,vi i,vb d] ((o0 0 (runOn g (if d then 1 else 0) (headOf g (if d then 1 else 0) 256 i)).length)) [] [.data 3 (.int .i64) (runOn g (if d then 1 else 0) (headOf g (if d then 1 else 0) 256 i))]:=by
 refine con_vc (how:=[none]) (c:=q125) (K:=(KK q125)) spL (fun k=> [[1,3,7,8,9],[1,3,7,11,12]].getD k []) (fun k=>if k=1 then [⟨11,3,.int .i64⟩] else if k=99 then [⟨6,3,.int .i64⟩] else []) 400 (.fork (.hd 0) (.hd 0)) (V:=fun G R=>let yy0:=(Row.box 46 (gG g []));(d=true→sK q125 0∧G 0 (stOf 40 [1,3,7,8,9] [vi i,p0,vi 1,vi 3,vb true] [Slot.live yy0]))∧(d=false→sK q125 0∧G 0 (stOf 40 [1,3,7,8,9] [vi i,p0,vi 0,vi 2,vb true] [Slot.live yy0]))) hmG Tryd.func81 (by kernel_rfl) (by kernel_rfl) (fun G R=>by kernel_rfl) ?_
 try dsimp only
 try dsimp only
 have hx:=fun y hy hb=>e125_0 g y (y+2) _ hc hy hb 256 i i0 hi rfl;have h0:=hx 0 (.inl rfl) rfl;have h1:=hx 1 (.inr rfl) rfl;cases d;simp (disch:=omega) only[oo,oop,oq,reduceCtorEq];repeat' first|with_reducible apply And.intro|intro _|rfl|omega|assumption|trivial|exact h0|exact h1|(exfalso;simp_all;done)
def vq8 (g:Gr) (i:Int) (num:Int) (ys:List (Int×Bool×List Int)) (G:GT) (R:RT):Prop:=let yy0:=(runOn g (if true=true then(1:Int) else(0:Int)) (headOf g (if true=true then(1:Int) else(0:Int)) 256 i));let yy1:=(runOn g (if false=true then(1:Int) else(0:Int)) (headOf g (if false=true then(1:Int) else(0:Int)) 256 i));let yy2:=(Row.box 46 (gG g []));let yy3:=(decide ((↑yy1.length:Int)>1)=true→rM 50 (ys.length+1)∧(decide ((↑yy0.length:Int)>1)=true→rM 50 (ys.length+1+1)∧sK q100 0∧G 0 (stOf 74 [1,3,4,5] [p0,o0 1 (ys.length+1+1),vi (IntKind.i64.wrap (num+1)),vi (IntKind.i64.wrap (i+1))] [Slot.live yy2,lD 50 tS (List.take (ys.length+1) (List.drop 0 (List.take ys.length (List.drop 0 ys)++List.take 1 (List.drop 0 [(IntKind.i64.wrap (num+1),false,List.take yy1.length (List.drop 0 yy1))])))++List.take 1 (List.drop 0 [(IntKind.i64.wrap (num+1),true,List.take yy0.length (List.drop 0 yy0))]))]))∧(decide ((↑yy0.length:Int)>1)=false→sK q100 0∧G 0 (stOf 74 [1,3,4,5] [p0,o0 1 (ys.length+1),vi (IntKind.i64.wrap (num+1)),vi (IntKind.i64.wrap (i+1))] [Slot.live yy2,lD 50 tS (List.take ys.length (List.drop 0 ys)++List.take 1 (List.drop 0 [(IntKind.i64.wrap (num+1),false,List.take yy1.length (List.drop 0 yy1))]))])));let yy4:=(decide ((↑yy0.length:Int)>1)=true→rM 50 (ys.length+1)∧sK q100 0∧G 0 (stOf 74 [1,3,4,5] [p0,o0 1 (ys.length+1),vi (IntKind.i64.wrap (num+1)),vi (IntKind.i64.wrap (i+1))] [Slot.live yy2,lD 50 tS (List.take ys.length (List.drop 0 ys)++List.take 1 (List.drop 0 [(IntKind.i64.wrap (num+1),true,List.take yy0.length (List.drop 0 yy0))]))]));let yy5:=(stOf 74 [1,3,4,5] [p0,o0 1 ys.length,vi num,vi (IntKind.i64.wrap (i+1))] [Slot.live yy2,lD 50 tS ys]);let yy6:=(stOf 74 [1,3,4,5] [p0,o0 1 ys.length,vi (IntKind.i64.wrap (num+1)),vi (IntKind.i64.wrap (i+1))] [Slot.live yy2,lD 50 tS ys]);let yy7:=(decide ((↑yy0.length:Int)>1)=true→rM 50 (ys.length+1)∧sK q100 0∧G 0 (stOf 74 [1,3,4,5] [p0,o0 1 (ys.length+1),vi num,vi (IntKind.i64.wrap (i+1))] [Slot.live yy2,lD 50 tS (List.take ys.length (List.drop 0 ys)++List.take 1 (List.drop 0 [(num,true,List.take yy0.length (List.drop 0 yy0))]))]));let yy8:=(stOf 74 [1,3,4,5] [p0,o0 1 (ys.length+1),vi num,vi (IntKind.i64.wrap (i+1))] [Slot.live yy2,lD 50 tS (List.take ys.length (List.drop 0 ys)++List.take 1 (List.drop 0 [(num,false,List.take yy1.length (List.drop 0 yy1))]))]);let yy9:=((↑yy1.length:Int)>1);(decide (i<IntKind.i64.wrap (g.h*g.w))=true→0≤i∧i<g.B.length∧(g.B.getD i.toNat tB.dflt=true→sK q100 0∧G 0 yy5)∧(g.B.getD i.toNat tB.dflt=false→cP 81 [] [D.agg (gG g []),vi i,vb false] (o0 0 yy1.length) [] [Row.data 3 tI yy1]∧gS g g (vE i i∧Value.bool false=Value.bool false∧cP 81 [] [D.agg (gG g []),vi i,vb true] (o0 0 yy0.length) [] [Row.data 3 tI yy0]∧gS g g (vE i i∧Value.bool true=Value.bool true∧(0:Int)≤0∧(0:Int)< (↑yy1.length:Int)∧0<yy1.length∧((yy1.getD 0 tI.dflt==i)=true→(0:Int)≤0∧(0:Int)< (↑yy0.length:Int)∧0<yy0.length∧((yy0.getD 0 tI.dflt==i)=true→(decide yy9=true→true=true∧yy3∧(decide yy9=false→yy4∧(decide ((↑yy0.length:Int)>1)=false→sK q100 0∧G 0 yy6)))∧(decide yy9=false→(decide ((↑yy0.length:Int)>1)=true→yy3∧(decide yy9=false→yy4∧(decide ((↑yy0.length:Int)>1)=false→sK q100 0∧G 0 yy6)))∧(decide ((↑yy0.length:Int)>1)=false→(decide yy9=true→rM 50 (ys.length+1)∧(decide ((↑yy0.length:Int)>1)=true→rM 50 (ys.length+1+1)∧sK q100 0∧G 0 (stOf 74 [1,3,4,5] [p0,o0 1 (ys.length+1+1),vi num,vi (IntKind.i64.wrap (i+1))] [Slot.live yy2,lD 50 tS (List.take (ys.length+1) (List.drop 0 (List.take ys.length (List.drop 0 ys)++List.take 1 (List.drop 0 [(num,false,List.take yy1.length (List.drop 0 yy1))])))++List.take 1 (List.drop 0 [(num,true,List.take yy0.length (List.drop 0 yy0))]))]))∧(decide ((↑yy0.length:Int)>1)=false→sK q100 0∧G 0 yy8))∧(decide yy9=false→yy7∧(decide ((↑yy0.length:Int)>1)=false→sK q100 0∧G 0 yy5)))))∧((yy0.getD 0 tI.dflt==i)=false→(decide yy9=true→true=true∧(decide yy9=true→rM 50 (ys.length+1)∧false=false∧sK q100 0∧G 0 (stOf 74 [1,3,4,5] [p0,o0 1 (ys.length+1),vi (IntKind.i64.wrap (num+1)),vi (IntKind.i64.wrap (i+1))] [Slot.live yy2,lD 50 tS (List.take ys.length (List.drop 0 ys)++List.take 1 (List.drop 0 [(IntKind.i64.wrap (num+1),false,List.take yy1.length (List.drop 0 yy1))]))]))∧(decide yy9=false→false=false∧sK q100 0∧G 0 yy6))∧(decide yy9=false→false=false∧(decide yy9=true→rM 50 (ys.length+1)∧false=false∧sK q100 0∧G 0 yy8)∧(decide yy9=false→false=false∧sK q100 0∧G 0 yy5))))∧((yy1.getD 0 tI.dflt==i)=false→(0:Int)≤0∧(0:Int)< (↑yy0.length:Int)∧0<yy0.length∧((yy0.getD 0 tI.dflt==i)=true→false=false∧(decide ((↑yy0.length:Int)>1)=true→false=false∧yy4∧(decide ((↑yy0.length:Int)>1)=false→sK q100 0∧G 0 yy6))∧(decide ((↑yy0.length:Int)>1)=false→false=false∧yy7∧(decide ((↑yy0.length:Int)>1)=false→sK q100 0∧G 0 yy5)))∧((yy0.getD 0 tI.dflt==i)=false→false=false∧false=false∧false=false∧false=false∧sK q100 0∧G 0 yy5))))))∧(decide (i<IntKind.i64.wrap (g.h*g.w))=false→R (o0 0 ys.length,[],[Row.data 50 tS ys]))
theorem e100 (g:Gr) (zs:List (Int×Bool×List Int)) (hc:checkF g=0) (m:Nat):∀(i num:Int) (ys:List (Int×Bool×List Int)),0≤i→i+m=g.h*g.w→0≤num→num≤i→ys.length≤2*i→ys++slotsFrom g m i num=zs→GetsK Tryd.prog Tryd.f38.results.toList [none] (KK q100) 0 (o0 0 zs.length,[],[.data 50 SlT zs]) 0 (stOf 74 [1,3,4,5] [.ptr 0 0 0,o0 1 ys.length,vi num,vi i] [lB 46 (gG g []),lD 50 SlT ys]):=by
 have hw:=hw_in (chk0.1 hc).1 (chk0.1 hc).2.1;have ew:=hw_wrap (chk0.1 hc).1 (chk0.1 hc).2.1;have sz:=size3 (chk0.1 hc).2.2.1;induction m with
 |zero=>
  intro i num ys i0 im n0 ni yl hz;simp only[slotsFrom,List.append_nil] at hz;subst hz;refine gets_vc spL (fun _=> [1,3,4,5]) (fun k=>if k=0 then [⟨3,50,SlT⟩] else [⟨2,50,SlT⟩]) 400 (.fork (.fork (.hd 0) (.fork (.fork (.fork (.t (.fork (.fork (.hd 0) (.hd 0)) (.fork (.hd 0) (.hd 0)))) (.fork (.fork (.fork (.hd 0) (.hd 0)) (.fork (.hd 0) (.hd 0))) (.fork (.fork (.hd 0) (.hd 0)) (.fork (.hd 0) (.hd 0))))) (.fork (.t (.fork (.f (.hd 0)) (.f (.hd 0)))) (.f (.fork (.f (.hd 0)) (.f (.hd 0)))))) (.fork (.f (.fork (.f (.fork (.hd 0) (.hd 0))) (.f (.fork (.hd 0) (.hd 0))))) (.f (.f (.f (.f (.hd 0)))))))) .stop) (V:=vq8 g i num ys) hmG (fun G R=>by kernel_rfl) ?_;unfold vq8;try dsimp only
  rw[ew];constructor
  ·intro h;rw[decide_eq_true_eq] at h;omega
  ·intro _;rfl
 |succ m ih=>
  intro i num ys i0 im n0 ni yl hz;have r0:=d125 g i false hc i0 (by omega);have r1:=d125 g i true hc i0 (by omega);simp only[Bool.false_eq_true,if_false,if_true] at r0 r1;have l1:∀(a:Int×Bool×List Int),((ys++[a]).length:Int)≤2*(i+1):=fun a=>by simp;omega
  have l2:∀(a b:Int×Bool×List Int),((ys++[a]++[b]).length:Int)≤2*(i+1):=fun a b=>by simp;omega
  have hA:=ih (i+1) num ys (by omega) (by omega) n0 (by omega) (by omega);have hB:=ih (i+1) (num+1) (ys++[(num+1,false,runOn g 0 i)]) (by omega) (by omega) (by omega) (by omega) (l1 _);have hC:=ih (i+1) (num+1) (ys++[(num+1,true,runOn g 1 i)]) (by omega) (by omega) (by omega) (by omega) (l1 _);have hD:=ih (i+1) (num+1) (ys++[(num+1,false,runOn g 0 i)]++[(num+1,true,runOn g 1 i)]) (by omega) (by omega) (by omega) (by omega) (l2 _ _);simp only[List.length_append,List.length_cons,List.length_nil,Nat.zero_add] at hB hC hD;have q0:=head_iff (g:=g) (y:=0) (.inl rfl) i0;have q1:=head_iff (g:=g) (y:=1) (.inr rfl) i0;have w0:=run_long (g:=g) (y:=0) (i:=i);have w1:=run_long (g:=g) (y:=1) (i:=i);have gd:∀y h,(runOn g y h).getD 0 0=h:=fun _ _=>rfl;have ln:∀y h,(runOn g y h).length=(onT g y 256 h).length+1:=fun _ _=>rfl;have ol:=on_len g;simp only[slotsFrom,beginsB,show(0:Int)+2=2 by rfl,show(1:Int)+2=3 by rfl] at hz q0 q1;refine gets_vc spL (fun _=> [1,3,4,5]) (fun k=>if k=0 then [⟨3,50,SlT⟩] else [⟨2,50,SlT⟩]) 400 (.fork (.fork (.hd 0) (.fork (.fork (.fork (.t (.fork (.fork (.hd 0) (.hd 0)) (.fork (.hd 0) (.hd 0)))) (.fork (.fork (.fork (.hd 0) (.hd 0)) (.fork (.hd 0) (.hd 0))) (.fork (.fork (.hd 0) (.hd 0)) (.fork (.hd 0) (.hd 0))))) (.fork (.t (.fork (.f (.hd 0)) (.f (.hd 0)))) (.f (.fork (.f (.hd 0)) (.f (.hd 0)))))) (.fork (.f (.fork (.f (.fork (.hd 0) (.hd 0))) (.f (.fork (.hd 0) (.hd 0))))) (.f (.f (.f (.f (.hd 0)))))))) .stop) (V:=vq8 g i num ys) hmG (fun G R=>by kernel_rfl) ?_;unfold vq8;try dsimp only
  simp only[take_len,ew,Bool.false_eq_true,if_false,if_true,Ty.dflt,Nat.zero_add,show(0:Int).toNat=0 by rfl,gd,show g.B.getD i.toNat false=bAt g.B i by rfl];rcases Bool.eq_false_or_eq_true (bAt g.B i) with hb|hb
  ·have ho:openF g i=false:=by rw[open_of hc i0 (by omega),hb];rfl
   have z:∀y,(stepF g i y).2=false:=fun y=>by rw[stepF,ho];rfl
   simp only[z,Bool.not_false,Bool.true_and,Bool.false_eq_true,if_false,List.nil_append,Bool.or_false] at hz;rw[hb];simp (disch:=omega) only[oo,oop,oq,reduceCtorEq];repeat' first|with_reducible apply And.intro|intro _|rfl|omega|assumption|trivial|exact hA hz|(exfalso;simp_all;done)
  ·rw[hb];rcases Bool.eq_false_or_eq_true (stepF g i 2).2 with a2|a2<;>rcases Bool.eq_false_or_eq_true (stepF g i 3).2 with a3|a3
   ·have a2:=a2;have a3:=a3;rw[a2] at q0;rw[a3] at q1;simp only[Bool.not_true,Bool.not_false] at q0 q1;rcases Bool.eq_false_or_eq_true (stepF g i 0).2 with a0|a0<;>rcases Bool.eq_false_or_eq_true (stepF g i 1).2 with a1|a1<;>
    simp only[q0,q1,w0,w1,a0,a1,a2,a3,Bool.not_true,Bool.not_false,Bool.true_and,Bool.false_and,Bool.and_true,Bool.and_false,if_true,Bool.false_eq_true,if_false,List.nil_append,Bool.or_true,Bool.true_or,Bool.or_false,beq_self_eq_true] at hz r0 r1⊢ <;>(
      simp (disch:=omega) only[List.nil_append,take_snoc,oo,oop,oq,reduceCtorEq];repeat' first|with_reducible apply And.intro|intro _|rfl|omega|assumption|trivial|exact hA hz|exact hB (by rw[←hz];simp)|exact hC (by rw[←hz];simp)|exact hD (by rw[←hz];simp)|exact run_pos _ _ _|exact run_posI _ _ _|exact room86 (by omega)|(exfalso;simp_all;done)|skip)
   ·have a2:=a2;have a3:=a3;rw[a2] at q0;rw[a3] at q1;simp only[Bool.not_true,Bool.not_false] at q0 q1;have e1:headOf g 1 256 i=i:=by simpa using q1
    rcases Bool.eq_false_or_eq_true (stepF g i 0).2 with a0|a0<;>rcases Bool.eq_false_or_eq_true (stepF g i 1).2 with a1|a1<;>
    simp only[q0,e1,w0,w1,a0,a1,a2,a3,Bool.not_true,Bool.not_false,Bool.true_and,Bool.false_and,Bool.and_true,Bool.and_false,if_true,Bool.false_eq_true,if_false,List.nil_append,Bool.or_true,Bool.true_or,Bool.or_false,beq_self_eq_true] at hz r0 r1⊢ <;>(
      simp (disch:=omega) only[List.nil_append,take_snoc,oo,oop,oq,reduceCtorEq];repeat' first|with_reducible apply And.intro|intro _|rfl|omega|assumption|trivial|exact hA hz|exact hB (by rw[←hz];simp)|exact hC (by rw[←hz];simp)|exact hD (by rw[←hz];simp)|exact run_pos _ _ _|exact run_posI _ _ _|exact room86 (by omega)|(exfalso;simp_all;done)|skip)
   ·have a2:=a2;have a3:=a3;rw[a2] at q0;rw[a3] at q1;simp only[Bool.not_true,Bool.not_false] at q0 q1;have e0:headOf g 0 256 i=i:=by simpa using q0
    rcases Bool.eq_false_or_eq_true (stepF g i 0).2 with a0|a0<;>rcases Bool.eq_false_or_eq_true (stepF g i 1).2 with a1|a1<;>
    simp only[e0,q1,w0,w1,a0,a1,a2,a3,Bool.not_true,Bool.not_false,Bool.true_and,Bool.false_and,Bool.and_true,Bool.and_false,if_true,Bool.false_eq_true,if_false,List.nil_append,Bool.or_true,Bool.true_or,Bool.or_false,beq_self_eq_true] at hz r0 r1⊢ <;>(
      simp (disch:=omega) only[List.nil_append,take_snoc,oo,oop,oq,reduceCtorEq];repeat' first|with_reducible apply And.intro|intro _|rfl|omega|assumption|trivial|exact hA hz|exact hB (by rw[←hz];simp)|exact hC (by rw[←hz];simp)|exact hD (by rw[←hz];simp)|exact run_pos _ _ _|exact run_posI _ _ _|exact room86 (by omega)|(exfalso;simp_all;done)|skip)
   ·have a2:=a2;have a3:=a3;rw[a2] at q0;rw[a3] at q1;simp only[Bool.not_true,Bool.not_false] at q0 q1;have e0:headOf g 0 256 i=i:=by simpa using q0
    have e1:headOf g 1 256 i=i:=by simpa using q1
    rcases Bool.eq_false_or_eq_true (stepF g i 0).2 with a0|a0<;>rcases Bool.eq_false_or_eq_true (stepF g i 1).2 with a1|a1<;>
    simp only[e0,e1,w0,w1,a0,a1,a2,a3,Bool.not_true,Bool.not_false,Bool.true_and,Bool.false_and,Bool.and_true,Bool.and_false,if_true,Bool.false_eq_true,if_false,List.nil_append,Bool.or_true,Bool.true_or,Bool.or_false,beq_self_eq_true] at hz r0 r1⊢ <;>(
      simp (disch:=omega) only[List.nil_append,take_snoc,oo,oop,oq,reduceCtorEq];repeat' first|with_reducible apply And.intro|intro _|rfl|omega|assumption|trivial|exact hA hz|exact hB (by rw[←hz];simp)|exact hC (by rw[←hz];simp)|exact hD (by rw[←hz];simp)|exact run_pos _ _ _|exact run_posI _ _ _|exact room86 (by omega)|(exfalso;simp_all;done)|skip)
theorem d100 (g:Gr):Con Tryd.prog 38 [] [g.d] ((o0 0 (slotsF g).length)) [] [.data 50 SlT (slotsF g)]:=by
 refine con_vc (how:=[none]) (c:=q100) (K:=(KK q100)) spL (fun _=> [1,3,4,5]) (fun k=>if k=0 then [⟨3,50,SlT⟩] else [⟨2,50,SlT⟩]) 400 (.fork .stop (.hd 0)) (V:=fun G R=>cP 80 [] [D.agg (gG g [])] (vi (checkF g)) [] []∧gS g g (((checkF g !=0)=true→R (o0 0 0,[],[Row.data 50 tS []]))∧((checkF g !=0)=false→sK q100 0∧G 0 (stOf 74 [1,3,4,5] [p0,o0 1 0,vi 0,vi 0] [lB 46 (gG g []),lD 50 tS []])))) hmG Tryd.func38 (by kernel_rfl) (by kernel_rfl) (fun G R=>by kernel_rfl) ?_;try dsimp only
 have c:=d44 g;by_cases hc:checkF g=0
 ·have hw:=hw_in (chk0.1 hc).1 (chk0.1 hc).2.1;have e:slotsF g=slotsFrom g (g.h*g.w).toNat 0 0:=if_pos hc;rw[e];have hx:=e100 g _ hc (g.h*g.w).toNat 0 0 [] (by omega) (by omega) (by omega) (by omega) (by simp) (by simp;rfl);rw[hc] at c⊢;simp (disch:=omega) only[oo,oop,oq,reduceCtorEq];repeat' first|with_reducible apply And.intro|intro _|rfl|omega|assumption|trivial|(exfalso;simp_all;done)
 ·have e:slotsF g=[]:=if_neg hc;rw[e];simp (disch:=omega) only[oo,oop,oq,reduceCtorEq];repeat' first|with_reducible apply And.intro|intro _|rfl|omega|assumption|trivial|(exfalso;simp_all;done)
abbrev SeT:Ty:= .prod (.int .i64) (.int .i64)
def layCells (s:Int):Int→List Int→List (Int×Int)→List (Int×Int)
 |_,[],A=>A
 |k,c::cs,A=>layCells s (k+1) cs (A.set c.toNat (s,k))
def laySlots:Int→List (Int×Bool×List Int)→List (Int×Int)→List (Int×Int)→List (Int×Int)×List (Int×Int)
 |_,[],A,D=>(A,D)
 |s,x::ss,A,D=>if x.2.1 then laySlots (s+1) ss A (layCells s 0 x.2.2 D) else laySlots (s+1) ss (layCells s 0 x.2.2 A) D
def seatsF (g:Gr):List (Int×Int)×List (Int×Int):=if checkF g=0 then laySlots 0 (slotsF g) (List.replicate (g.h*g.w).toNat (-1,0)) (List.replicate (g.h*g.w).toNat (-1,0)) else([],[])
def spSe:Sp:=fun f args rd=>match f,args with
 |40,[.agg [.v (.int _ h),.v (.int _ w),b,r,l]]=>withW rd h w b r l fun g ls=>some {f:=40,args:=[g.d],val:= .tup [.own 0 0 (seatsF g).1.length none,.own 1 0 (seatsF g).2.length none],allocs:=[.data 61 SeT (seatsF g).1,.data 61 SeT (seatsF g).2],lent:=ls}
 |f,args=>spL f args rd
theorem sl_len (g:Gr):∀(m:Nat) (i num:Int),(slotsFrom g m i num).length≤2*m
 |0,_,_=>by simp[slotsFrom]
 |m+1,i,num=>by
  simp only[slotsFrom,List.length_append];have:=sl_len g m (i+1) (if beginsB g i 0||beginsB g i 1 then num+1 else num);split<;>split<;>simp only[List.length_cons,List.length_nil]<;>omega
theorem lay_len (s:Int):∀(cs:List Int) (k:Int) (A:List (Int×Int)),(layCells s k cs A).length=A.length
 | [],_,_=>rfl
 |c::cs,k,A=>by simp only[layCells];rw[lay_len s cs (k+1)];simp
theorem bytes104:Tryd.prog.bytesOf 61=16:=by kernel_rfl
theorem room104 {n:Nat} (h:n≤1000000):roomy Tryd.prog 61 n:=by
 unfold roomy;rw[bytes104];omega
theorem on_open {g:Gr} {y:Int}:∀(m:Nat) (i:Int),∀c∈onT g y m i,openF g c=true
 |0,_,c,h=>by simp[onT] at h
 |m+1,i,c,h=>by
  simp only[onT] at h;split at h
  ·rename_i hs;rcases List.mem_cons.1 h with h|h
   ·rw[h];exact(step_facts hs).2.1
   ·exact on_open m _ c h
  ·simp at h
theorem slots_open {g:Gr}:∀(m:Nat) (i num:Int),∀x∈slotsFrom g m i num,x.2.2.length≤257∧∀c∈x.2.2,openF g c=true
 |0,_,_,x,h=>by simp[slotsFrom] at h
 |m+1,i,num,x,h=>by
  have key:∀y,beginsB g i y=true→(runOn g y i).length≤257∧∀c∈runOn g y i,openF g c=true:=by
   intro y hb;unfold beginsB at hb;rw[Bool.and_eq_true] at hb;refine⟨by have:=on_len g y 256 i;simp only[runOn,List.length_cons];omega,fun c hc=> ?_⟩;rcases List.mem_cons.1 hc with h|h
   ·rw[h];exact(step_facts hb.2).1
   ·exact on_open 256 i c h
  simp only[slotsFrom,List.mem_append] at h;rcases h with h|h|h
  ·split at h
   ·rename_i hb;rw[List.mem_singleton.1 h];exact key 0 hb
   ·simp at h
  ·split at h
   ·rename_i hb;rw[List.mem_singleton.1 h];exact key 1 hb
   ·simp at h
  ·exact slots_open m _ _ x h
def Solid (H:Heap):Prop:=∀id,id<H.length→slot H id≠ .free
theorem slot_out {H:Heap} {id:Nat} (h:H.length≤id):slot H id= .free:=by
 unfold slot;rw[gE,List.getElem?_eq_none h];rfl
def Beg.of (X:Ctx):Beg:=⟨X.w,fun id=>if(hget X.H id).isSome then X.ρ id else none,X.S,X.H.length⟩
theorem beg_some {X:Ctx} {id:Nat} {l:Loc} (h:(Beg.of X).ρ id=some l):hget X.H id≠none∧X.ρ id=some l:=by
 unfold Beg.of at h;simp only at h;split at h
 ·rename_i h1;exact⟨fun e=>(by rw[e] at h1;cases h1),h⟩
 ·cases h
theorem beg_live {X:Ctx} {id:Nat} (h:hget X.H id≠none):(Beg.of X).ρ id=X.ρ id:=if_pos (by
 cases e:hget X.H id with
 |none=>exact absurd e h
 |some r=>rfl)
theorem mem_self {b:Beg} {X:Ctx} (M:Mem b X):Mem (Beg.of X) X:=by
 refine⟨rfl,rfl,rfl,Nat.le_refl _,M.inj,M.rows,M.sep,M.stab,fun _ _ _=>rfl,?_,fun id _ h=>by rw[beg_live h];rfl,fun _ h=>h,fun _ h=> .inl h,M.glob,M.ok⟩;intro id p h1 h2 k hk;exact .inr ⟨id,p,lt_of_slot (fun e=>h1 (hget_free e)),by rw[beg_live h1];exact h2,hk⟩
def Became (H H':Heap):Prop:=(∀id r,slot H id= .live r→slot H' id= .dead∨∃r',slot H' id= .live r'∧Comp r r')∧∀id,slot H id= .dead→slot H' id= .dead
theorem mem_trans {b:Beg} {X X':Ctx} (M:Mem b X) (hl:Solid X.H) (hbn:b.n≤X.H.length) (hc:Became X.H X'.H) (M':Mem (Beg.of X) X'):Mem b X':=by
 have hB:∀k,(Beg.of X).B k→b.w.heap.size≤k∨b.B k:=by
  rintro k ⟨id,l,h1,h2,h3⟩
  exact M.fresh id l (beg_some h2).1 (beg_some h2).2 k h3
 refine⟨M'.os.trans M.os,M'.tape.trans M.tape,M'.output.trans M.output,Nat.le_trans M.size M'.size,M'.inj,M'.rows,M'.sep,M'.stab,?_,?_,?_,fun k hk=>M'.sub k (M.sub k hk),?_,M'.glob,M'.ok⟩
 ·intro k h1 h2;have h3:¬(Beg.of X).B k:=by
   intro hb;rcases hB k hb with h|h
   ·omega
   ·exact h2 h
  rw[M'.keep k (Nat.lt_of_lt_of_le h1 M.size) h3];exact M.keep k h1 h2
 ·intro id p h1 h2 k hk;rcases M'.fresh id p h1 h2 k hk with h|h
  ·exact .inl (Nat.le_trans M.size h)
  ·exact hB _ h
 ·intro id h1 h2;have hlt:=Nat.lt_of_lt_of_le h1 hbn;have hlive:hget X.H id≠none:=by
   intro e;cases hx:slot X.H id with
   |free=>exact hl id hlt hx
   |dead=>
    refine h2 ?_;unfold hget;rw[hc.2 id hx]
   |live r=>rw[hget_live.2 hx] at e;cases e
  have h3:X'.pl id=X.pl id:=by
   have:=M'.old id hlt h2;rw[beg_live hlive] at this;exact this
  rw[h3];exact M.old id h1 hlive
 ·intro k hk;rcases M'.sup k hk with h|h|h
  ·exact M.sup k h
  ·exact .inr (.inl (Nat.le_trans M.size h))
  ·exact .inr (hB k h)
theorem le_trans' {b:Beg} {X X':Ctx} (M:Mem b X) (M':Mem (Beg.of X) X') (hc:Became X.H X'.H):Le X X':=by
 refine⟨fun k hk=>⟨M'.sub k hk,M'.keep k (M.stab k hk) ?_⟩,fun id=> ?_⟩
 ·rintro⟨id,l,h1,h2,h3⟩
  exact M.sep id l (beg_some h2).1 (beg_some h2).2 k h3 hk
 ·unfold Pair;cases hx:slot X.H id with
  |free=>trivial
  |dead=>
   rw[hc.2 id hx];trivial
  |live r=>
   have hi:id<X.H.length:=lt_of_slot (by rw[hx];simp);rcases hc.1 id r hx with h|⟨r',h,hcomp⟩
   ·rw[h];trivial
   ·rw[h];have:=M'.old id hi (by rw[hget_live.2 h];simp);rw[beg_live (by rw[hget_live.2 hx];simp)] at this;exact⟨hcomp,this⟩
def shapeEqO:List (Option Row)→List (Option Row)→Option (List Prop)
 | [],[]=>some []
 |none::rs,none::qs=>shapeEqO rs qs
 |some r::rs,q::qs=>match shapeEq [r] [q],shapeEqO rs qs with
  |some a,some b=>some (a++b)
  |_,_=>none
 |_,_=>none
theorem shapeEqO_at:∀{pre post:List (Option Row)} {qs:List Prop},shapeEqO pre post=some qs→(∀q∈qs,q)→pre.length=post.length∧∀(id:Nat) (o:Option Row),pre[id]? =some o→match o with
  |none=>post[id]? =some none
  |some r=>post[id]? =some none∨∃r',post[id]? =some (some r')∧Comp r r'
 | [],[],_,_,_=>⟨rfl,fun id o h=>by simp at h⟩
 | [],_::_,_,h,_=>by simp[shapeEqO] at h
 |none::_,[],_,h,_=>by simp[shapeEqO] at h
 |some _::_,[],_,h,_=>by simp[shapeEqO] at h
 |none::_,some _::_,_,h,_=>by simp[shapeEqO] at h
 |none::rs,none::ps,qs,h,hq=>by
  obtain⟨h1,h2⟩:=shapeEqO_at (pre:=rs) (post:=ps) h hq;refine⟨by simp[h1],fun id o ho=> ?_⟩;cases id with
  |zero=>
   simp only[List.getElem?_cons_zero,sI] at ho;subst ho;rfl
  |succ id=>exact h2 id o (by simpa using ho)
 |some r::rs,q::ps,qs,h,hq=>by
  simp only[shapeEqO] at h;split at h
  ·rename_i a b ha hb;simp only[sI] at h;subst h;obtain⟨h1,h2⟩:=shapeEqO_at hb (fun q hq'=>hq q (List.mem_append_right _ hq'));obtain⟨e1,e2⟩:=shapeEq_all ha (fun q hq'=>hq q (List.mem_append_left _ hq'));refine⟨by simp[h1],fun id o ho=> ?_⟩;cases id with
   |zero=>
    simp only[List.getElem?_cons_zero,sI] at ho;subst ho;cases q with
    |none=>exact .inl rfl
    |some r'=>exact .inr ⟨r',rfl,e2 0 r r' rfl rfl⟩
   |succ id=>exact h2 id o (by simpa using ho)
  ·cases h
theorem slot_opts {H:Heap} {n:Nat} {rs:List (Option Row)} (h:optsOf (H.take n)=some rs) {id:Nat} (hid:id<n) {o:Option Row} (ho:rs[id]? =some o):slot H id=slotOf o:=by
 have e:=optsOf_some h;have h2:(H.take n)[id]? =some (slotOf o):=by
  rw[e,List.getElem?_map,ho];rfl
 rw[List.getElem?_take_of_lt hid] at h2;unfold slot;rw[gE,h2];rfl
theorem became_of_shape {H H':Heap} {pre post:List (Option Row)} {qs:List Prop} (hpre:optsOf H=some pre) (hp:optsOf (H'.take pre.length)=some post) (hs:shapeEqO pre post=some qs) (hq:∀q∈qs,q):Became H H':=by
 obtain⟨hl,hat⟩:=shapeEqO_at hs hq;have hH:=optsOf_some hpre;have key:∀id,id<H.length→∃o,pre[id]? =some o∧slot H id=slotOf o:=by
  intro id hid;rw[hH,List.length_map] at hid;refine⟨pre[id],gQ hid,?_⟩;unfold slot;rw[hH,gE,List.getElem?_map,gQ hid];rfl
 have hlen:H.length=pre.length:=by rw[hH,List.length_map]
 refine⟨fun id r h=> ?_,fun id h=> ?_⟩
 ·have hid:id<H.length:=lt_of_slot (by rw[h];simp);obtain⟨o,h1,h2⟩:=key id hid;rw[h] at h2;cases o with
  |none=>cases h2
  |some r0=>
   cases h2;rcases hat id _ h1 with h3|⟨r',h3,h4⟩
   ·exact .inl (slot_opts hp (by omega) h3)
   ·exact .inr ⟨r',slot_opts hp (by omega) h3,h4⟩
 ·have hid:id<H.length:=lt_of_slot (by rw[h];simp);obtain⟨o,h1,h2⟩:=key id hid;rw[h] at h2;cases o with
  |some r0=>cases h2
  |none=>exact slot_opts hp (by omega) (hat id _ h1)
theorem row_block {b:Beg} {X:Ctx} (M:Mem b X) {z:Nat} {o:Obj} (hz:X.w.heap[z]? =some o) (ho:∀cs ty fz,o≠ .cells cs ty fz) {id:Nat} {r:Row} {l:Loc} (h1:hget X.H id=some r) (h2:X.ρ id=some l):∀k∈l.bs,k≠z:=by
 intro k hk e;have h3:=M.rows id r h1;rw[h2] at h3;obtain⟨cs,ty,h4⟩:=h3.cells (M.ok id r l h1 h2) k hk;rw[e,hz] at h4;exact ho _ _ _ (Option.some.inj h4)
def putX (X:Ctx) (z:Nat) (o:Obj):Ctx:=⟨X.ρ,X.H,X.S,X.w.putObj z o⟩
theorem putX_le {X:Ctx} {z:Nat} {o:Obj} (hS:¬X.S z):Le X (putX X z o):=by
 refine⟨fun k hk=>⟨hk,putObj_ne k (fun e=>hS (e▸hk))⟩,fun id=> ?_⟩;unfold Pair;show match slot X.H id,slot X.H id with
  | .free,_=>True
  |_,.free=>False
  |_,.dead=>True
  | .dead,.live _=>False
  | .live r,.live r'=>Comp r r'∧(X.ρ id).map Loc.toPl=(X.ρ id).map Loc.toPl
 cases slot X.H id with
 |free=>trivial
 |dead=>trivial
 |live r=>exact⟨Comp.refl r,rfl⟩
theorem mem_put {b:Beg} {X:Ctx} (M:Mem b X) {z:Nat} {o o':Obj} (hz:X.w.heap[z]? =some o) (ho:∀cs ty fz,o≠ .cells cs ty fz) (hS:¬X.S z) (hb:b.w.heap.size≤z):Mem b (putX X z o'):=by
 have hle:=putX_le (X:=X) (o:=o') hS;refine⟨M.os,M.tape,M.output,by show _≤(X.w.putObj z o').heap.size;rw[World.putObj_size];exact M.size,M.inj,?_,M.sep,fun k hk=>by show k< (X.w.putObj z o').heap.size;rw[World.putObj_size];exact M.stab k hk,?_,M.fresh,M.old,M.sub,M.sup,M.glob.le hle.st,M.ok⟩
 ·intro id r hr;refine relRow_le hle ?_ (M.rows id r hr);intro l hl k hk;exact putObj_ne _ (row_block M hz ho hr hl k hk)
 ·intro k h1 h2;show(X.w.putObj z o').heap[k]? =_;rw[putObj_ne k (by omega)];exact M.keep k h1 h2
def Beg.put (b:Beg) (z:Nat) (o:Obj):Beg:=⟨b.w.putObj z o,b.ρ,b.S,b.n⟩
theorem mem_put_both {b:Beg} {X:Ctx} (M:Mem b X) {z:Nat} {o o':Obj} (hz:X.w.heap[z]? =some o) (ho:∀cs ty fz,o≠ .cells cs ty fz) (hS:¬X.S z):Mem (b.put z o') (putX X z o'):=by
 have hle:=putX_le (X:=X) (o:=o') hS;refine⟨M.os,M.tape,M.output,by show(b.w.putObj z o').heap.size≤(X.w.putObj z o').heap.size;rw[World.putObj_size,World.putObj_size];exact M.size,M.inj,?_,M.sep,fun k hk=>by show k< (X.w.putObj z o').heap.size;rw[World.putObj_size];exact M.stab k hk,?_,?_,M.old,M.sub,?_,M.glob.le hle.st,M.ok⟩
 ·intro id r hr;refine relRow_le hle ?_ (M.rows id r hr);intro l hl k hk;exact putObj_ne _ (row_block M hz ho hr hl k hk)
 ·intro k h1 h2;have h1':k<b.w.heap.size:=by
   have h:k< (b.w.putObj z o').heap.size:=h1;rwa [World.putObj_size] at h
  show(X.w.putObj z o').heap[k]? =(b.w.putObj z o').heap[k]?;by_cases e:k=z
  ·subst e;rw[World.putObj_heap_same h1',World.putObj_heap_same (Nat.lt_of_lt_of_le h1' M.size)]
  ·rw[putObj_ne k e,putObj_ne k e];exact M.keep k h1' h2
 ·intro id p h1 h2 k hk;rcases M.fresh id p h1 h2 k hk with h|h
  ·exact .inl (by show(b.w.putObj z o').heap.size≤_;rw[World.putObj_size];exact h)
  ·exact .inr h
 ·intro k hk;rcases M.sup k hk with h|h|h
  ·exact .inl h
  ·exact .inr (.inl (by show(b.w.putObj z o').heap.size≤_;rw[World.putObj_size];exact h))
  ·exact .inr (.inr h)
structure Grew (w w':World):Prop where
 os:w'.os=w.os
 tape:w'.tape=w.tape
 output:w'.output=w.output
 size:w.heap.size≤w'.heap.size
 keep:∀k,k<w.heap.size→w'.heap[k]? =w.heap[k]?
theorem Grew.trans {a b c:World} (h:Grew a b) (k:Grew b c):Grew a c:=
 ⟨k.os.trans h.os,k.tape.trans h.tape,k.output.trans h.output,Nat.le_trans h.size k.size,fun i hi=>(k.keep i (Nat.lt_of_lt_of_le hi h.size)).trans (h.keep i hi)⟩
theorem grew_alloc (w:World) (o:Obj):Grew w (w.alloc o):=⟨rfl,rfl,rfl,by simp,fun k hk=>heap_old w o k hk⟩
theorem mem_grew {b:Beg} {X:Ctx} (M:Mem b X) {w':World} (hg:Grew X.w w'):Mem b ⟨X.ρ,X.H,X.S,w'⟩∧Le X ⟨X.ρ,X.H,X.S,w'⟩:=by
 have hle:Le X ⟨X.ρ,X.H,X.S,w'⟩:=by
  refine⟨fun k hk=>⟨hk,hg.keep k (M.stab k hk)⟩,fun id=> ?_⟩;unfold Pair;show match slot X.H id,slot X.H id with
   | .free,_=>True
   |_,.free=>False
   |_,.dead=>True
   | .dead,.live _=>False
   | .live r,.live r'=>Comp r r'∧(X.ρ id).map Loc.toPl=(X.ρ id).map Loc.toPl
  cases slot X.H id with
  |free=>trivial
  |dead=>trivial
  |live r=>exact⟨Comp.refl r,rfl⟩
 refine⟨⟨hg.os.trans M.os,hg.tape.trans M.tape,hg.output.trans M.output,Nat.le_trans M.size hg.size,M.inj,?_,M.sep,fun k hk=>Nat.lt_of_lt_of_le (M.stab k hk) hg.size,?_,M.fresh,M.old,M.sub,M.sup,M.glob.le hle.st,M.ok⟩,hle⟩
 ·intro id r hr;refine relRow_le hle ?_ (M.rows id r hr);intro l hl k hk;exact hg.keep _ (M.lts (by rw[hr];simp) hl k hk)
 ·intro k h1 h2;show w'.heap[k]? =_;rw[hg.keep k (Nat.lt_of_lt_of_le h1 M.size)];exact M.keep k h1 h2
theorem mem_pin {b:Beg} {X:Ctx} (M:Mem b X) {z:Nat} {o:Obj} (hz:X.w.heap[z]? =some o) (ho:∀cs ty fz,o≠ .cells cs ty fz) (hb:b.w.heap.size≤z):Mem b ⟨X.ρ,X.H,fun k=>X.S k∨k=z,X.w⟩∧Le X ⟨X.ρ,X.H,fun k=>X.S k∨k=z,X.w⟩:=by
 have hle:Le X ⟨X.ρ,X.H,fun k=>X.S k∨k=z,X.w⟩:=by
  refine⟨fun k hk=>⟨.inl hk,rfl⟩,fun id=> ?_⟩;unfold Pair;show match slot X.H id,slot X.H id with
   | .free,_=>True
   |_,.free=>False
   |_,.dead=>True
   | .dead,.live _=>False
   | .live r,.live r'=>Comp r r'∧(X.ρ id).map Loc.toPl=(X.ρ id).map Loc.toPl
  cases slot X.H id with
  |free=>trivial
  |dead=>trivial
  |live r=>exact⟨Comp.refl r,rfl⟩
 refine⟨⟨M.os,M.tape,M.output,M.size,M.inj,fun id r hr=>relRow_le hle (fun _ _ _ _=>rfl) (M.rows id r hr),?_,?_,M.keep,M.fresh,M.old,fun k hk=> .inl (M.sub k hk),?_,M.glob.le hle.st,M.ok⟩,hle⟩
 ·intro id p h1 h2 k hk h3;rcases h3 with h3|h3
  ·exact M.sep id p h1 h2 k hk h3
  ·cases hr:hget X.H id with
   |none=>exact h1 hr
   |some r=>exact row_block M hz ho hr h2 k hk h3
 ·intro k hk;rcases hk with hk|rfl
  ·exact M.stab k hk
  ·exact(Array.getElem?_eq_some_iff.1 hz).1
 ·intro k hk;rcases hk with hk|rfl
  ·exact M.sup k hk
  ·exact .inr (.inl hb)
def Yields (P:Program) (l:Nat) (x:List Value) (w:World) (R:Bool→World→Prop):Prop:=
 ∃f tmps assign body,(Instr.yield l x.toArray).run P w= .ok (.round l f tmps assign body) w∧
  ∀(c:Frame) (cs:List Frame),∃bv w',R bv w'∧Steps P (lone (Frame.round l f tmps assign body .normal) (c::cs) w) (lone (c.finish (.bool bv)) cs w')
structure Kept (U:Nat→Prop) (w w':World):Prop where
 size:w.heap.size≤w'.heap.size
 keep:∀k,k<w.heap.size→¬U k→w'.heap[k]? =w.heap[k]?
def bareX (S:Nat→Prop) (w:World):Ctx:=⟨fun _=>none,[],S,w⟩
structure IterP (P:Program) (g:FuncId) (caps:List D) (xs:List (List Value)):Prop where
 fn:∃fn,P.funcs[g]? =some fn∧(fn.name== "runtime.NumGoroutine")=false∧fn.body.isNone=false
 run:∀(l:Nat) (lb:List Value) (S:Nat→Prop) (J:Nat→(Nat→Prop)→World→Prop) (Jx:World→Prop),(∀i U w,J i U w→∀k,U k→k<w.heap.size)→
  (∀i U w w',Grew w w'→J i U w→J i U w')→(∀w w',Grew w w'→Jx w→Jx w')→
  (∀i x U w,xs[i]? =some x→J i U w→Yields P l x w fun c w'=>Kept U w w'∧if c then∃U',J (i+1) U' w'∧∀k,U' k→U k∨w.heap.size≤k else Jx w')→
  ∀U w,J 0 U w→(∀k,S k→k<w.heap.size∧¬U k)→GlobOk S w→RelDs (bareX S w) caps lb→
   Calls P g (#[.func (.yield l) #[] #[]]++lb.toArray) w fun e w'=>(∃v,e= .returned v)∧((∃U',J xs.length U' w')∨Jx w')
def EndAt:Option Code→List Item→Prop
 |none,k=>k=[]
 |some .ret,k=>∃r,k= .code .ret::r
 |some (.exit id),k=>∃r,k= .code (.exit id)::r∧exitTo id r=none
 |_,_=>False
def bodyGoal (P:Program) (l:Nat) (Ψ:Option Code→St→Prop):Goal P where
 ro:=some l
 Q:=fun b fr cs m=>∃j X' s' a' todo,Steps P m (lone (fr.atR a' todo) cs X'.w)∧EndAt j todo∧Rel b X' s' a'∧Ψ j s'
 back:=by
  intro b fr cs m m' hs h;obtain⟨j,X',s',a',todo,h1,h2⟩:=h;exact⟨j,X',s',a',todo,Steps.head hs h1,h2⟩
def rndGoal (P:Program) (l:Nat) (rc:Loop) (Ψ:Option Code→St→Prop):Goal P where
 ro:=some l
 Q:=fun b fr cs m=>b.w.heap[l]? =some (.loop rc)→¬b.S l→¬b.B l→(bodyGoal P l Ψ).Q (b.put l (.loop {rc with state:= .busy})) fr cs m
 back:=by
  intro b fr cs m m' hs h h1 h2 h3;exact(bodyGoal P l Ψ).back _ _ _ _ _ hs (h h1 h2 h3)
theorem body_vc {P:Program} {sp:Sp} {n:Nat} {l:Nat} {K:Nat→List Item} {keep:Nat→List Nat} {co:Nat→List Co} {E:Option Code→St→Prop} {G:Nat→St→Prop} {Ψ:Option Code→St→Prop} (hm:P.follows .mixedOrders=true)
  (hG:∀i s,G i s→Goes P (bodyGoal P l Ψ) n (K i) s) (hE:∀j s,E j s→Ψ j s) (f:Nat) (k:List Item) (h:Hint) (s:St) (hv:vcX P sp n K keep co E G f k h s):Goes P (bodyGoal P l Ψ) n k s:=
 vcX_sound hm hG (fun s h b X a fr cs _ _ _ R=>⟨none,X,s,a,[],Steps.refl _ _,rfl,R,hE _ _ h⟩)
  (fun k s h b X a fr cs _ _ _ R=>⟨some .ret,X,s,a,_,Steps.refl _ _,⟨k,rfl⟩,R,hE _ _ h⟩)
  (fun id k s he h b X a fr cs _ _ _ R=>⟨some (.exit id),X,s,a,_,Steps.refl _ _,⟨k,rfl,he⟩,R,hE _ _ h⟩) f k h s hv
theorem loop_ne (rc:Loop):∀cs ty fz,(Obj.loop rc)≠ .cells cs ty fz:=fun _ _ _ h=>by cases h
theorem marks_put {b:Beg} {X:Ctx} {ds:List Deferred} {z:Nat} {o:Obj} (h:Marks b X ds):Marks (b.put z o) X ds:=by
 obtain⟨h0,Ds,h1,h2,h3⟩:=h;refine⟨fun k hk=>by show k< (b.w.putObj z o).heap.size;rw[World.putObj_size];exact h0 k hk,Ds,h1,h2,fun D hD=> ?_⟩;obtain⟨g1,g2,g3⟩:=h3 D hD;exact⟨by show(b.w.putObj z o).heap.size≤D;rw[World.putObj_size];exact g1,g2,g3⟩
theorem begin_round {P:Program} {l:Nat} {rc:Loop} {Ψ:Option Code→St→Prop} {n:Nat} {s:St} {k:List Item} (hr:rc.state= .ready) (hg:Goes P (bodyGoal P l Ψ) n k s):Goes P (rndGoal P l rc Ψ) n (.beginRound::k) s:=by
 intro b X a fr cs hro hb hd R h1 h2 h3;have hlt:l<b.w.heap.size:=(Array.getElem?_eq_some_iff.1 h1).1;have hX:X.w.heap[l]? =some (.loop rc):=by rw[R.mem.keep l hlt h3];exact h1
 have hS:¬X.S l:=by
  intro h;rcases R.mem.sup l h with h|h|h
  ·exact h2 h
  ·omega
  ·exact h3 h
 have M1:=mem_put_both (o':= .loop {rc with state:= .busy}) R.mem hX (loop_ne rc) hS;have hle:=putX_le (X:=X) (o:= .loop {rc with state:= .busy}) hS;have R1:Rel (b.put l (.loop {rc with state:= .busy})) (putX X l (.loop {rc with state:= .busy})) s a:=
  ⟨M1,hle.ds R.tmps,R.heap,R.len,marks_put (R.defers.le hle)⟩
 exact(bodyGoal P l Ψ).back _ _ _ _ _ (stepR_beginRound hro (run_beginRound hX hr)) (hg (b.put l (.loop {rc with state:= .busy})) (putX X l (.loop {rc with state:= .busy})) a fr cs hro hb hd R1)
theorem rnd_vc {P:Program} {sp:Sp} {n l:Nat} {rc:Loop} {Ψ:Option Code→St→Prop} {assign body:Code} {s:St} {keep:List Nat} {f:Nat} {G:St→Prop} (hm:P.follows .mixedOrders=true) (hr:rc.state= .ready)
  (hG:∀s,G s→Goes P (bodyGoal P l Ψ) n [.code body] s)
  (hv:vcX P sp n (fun _=> [.beginRound,.code body]) (fun _=>keep) (fun _=> []) (fun _ _=>Stuck 3000) (fun _=>G) f [.code assign,.beginRound,.code body] (.cut 0) s):
  Goes P (rndGoal P l rc Ψ) n [.code assign,.beginRound,.code body] s:=
 vcX_sound hm (fun _ s h=>begin_round hr (hG s h)) (fun s h=>h.elim) (fun k s h=>h.elim) (fun id k s _ h=>h.elim) f _ _ s hv
def putPs (ts:List D) (ps:List Tmp) (x:List Value):List D:=(ps.zip x).foldl (fun t p=>t.set p.1 (.v p.2)) ts
def Same (n:Nat) (s s':St):Prop:=∀(b:Beg) (X:Ctx) (a:Act),b.n=n→Rel b X s a→∃X',Shr X X'∧Rel b X' s' a
def Rnds (P:Program) (T:Goal P) (n:Nat) (ps:Array Tmp) (assign body:Code) (k:List Item):List (List Value)→St→Prop
 | [],s=>Goes P T n k s
 |x::xs,s=>x.length=ps.size∧Solid s.heap∧n≤s.heap.length∧∀l rc,rc.state= .ready→
   Goes P (rndGoal P l rc fun j s'=>Became s.heap s'.heap∧match j with
    |none=>∃s'',Same n ⟨s.tmps,s'.heap⟩ s''∧Rnds P T n ps assign body k xs s''
    |some c=>Goes P T n (.code c::k) ⟨s.tmps,s'.heap⟩) s.heap.length [.code assign,.beginRound,.code body] ⟨putPs s.tmps ps.toList x,s.heap⟩
theorem foldl_toList:∀(l:List (Tmp×Value)) (A:Array Value),(l.foldl (fun t p=>t.setIfInBounds p.1 p.2) A).toList=l.foldl (fun t p=>t.set p.1 p.2) A.toList
 | [],_=>rfl
 |p::l,A=>by
  simp only[List.foldl_cons];rw[foldl_toList l,Array.toList_setIfInBounds]
theorem relDs_foldl {X:Ctx}:∀(l:List (Tmp×Value)) {ds:List D} {us:List Value},RelDs X ds us→RelDs X (l.foldl (fun t p=>t.set p.1 (.v p.2)) ds) (l.foldl (fun t p=>t.set p.1 p.2) us)
 | [],_,_,h=>h
 |p::l,ds,us,h=>relDs_foldl l (relDs_set h (by simp only[RelD]))
theorem relDs_putPs {X:Ctx} {ts:List D} {tmps:Array Value} (h:RelDs X ts tmps.toList) (ps:Array Tmp) (x:List Value):
  RelDs X (putPs ts ps.toList x) ((ps.zip x.toArray).foldl (fun t (p,v)=>t.setIfInBounds p v) tmps).toList:=by
 have e:((ps.zip x.toArray).foldl (fun t (p,v)=>t.setIfInBounds p v) tmps)=((ps.toList.zip x).foldl (fun t p=>t.setIfInBounds p.1 p.2) tmps):=by
  rw[←Array.foldl_toList,Array.toList_zip]
 rw[e,foldl_toList];exact relDs_foldl _ h
theorem bare_rel {X:Ctx} {caps:List D} {lb:List Value} (hcl:renDs (pos []) caps=caps∧inB [] (refsDs caps)=true) (h:RelDs X caps lb):RelDs (bareX X.S X.w) caps lb:=by
 have h1:=pack_rels (X:=X) [] hcl.2 h;rw[hcl.1] at h1;refine Le.ds (X:=packX X []) (Y:=bareX X.S X.w) ⟨fun k hk=>⟨hk,rfl⟩,fun id=> ?_⟩ h1;unfold Pair;have e:slot (packX X []).H id= .free:=slot_out (by simp[packX,packH]);rw[e];trivial
def Rows' (X:Ctx) (k:Nat):Prop:=∃id l,hget X.H id≠none∧X.ρ id=some l∧k∈l.bs
theorem Steps.last {P:Program} {m m1 m2:Machine} (h:Steps P m m1) (hs:step P m1= .next m2):Steps P m m2:=Steps.trans h (.one hs)
theorem goes_range {P:Program} {T:Goal P} (hro:T.ro=none) (hnm:T.nd=false) {n:Nat} {k:List Item} {s:St} {g:Operand} {ps:Array Tmp} {assign body:Code} {gf:FuncId} {caps:List D} {xs:List (List Value)}
  (hg:evalD s.tmps g= .fn gf caps) (hcl:renDs (pos []) caps=caps∧inB [] (refsDs caps)=true) (it:IterP P gf caps xs) (hR:Rnds P T n ps assign body k xs s):Goes P T n (.code (.rangeFunc g ps assign body)::k) s:=by
 intro b X a fr cs hfr hb _ R;rw[hro] at hfr;have hev:=evalD_rel R.mem R.tmps g;rw[hg] at hev;simp only[RelD] at hev;obtain⟨lb,elb,hcaps⟩:=hev;obtain⟨fn,hfn,hname,hbody⟩:=it.fn;obtain⟨hlow,Ds,hds,hnd,hall⟩:=R.defers;let D:=X.w.heap.size
 let rc:Loop:={state:= .ready,pending:=none,fn:=fr.fn,tmps:=a.tmps,params:=ps,assign:=assign,body:=body,defers:=D}
 let w1:=(X.w.alloc (.deferred (some []))).alloc (.loop rc)
 have hgrow:Grew X.w w1:=(grew_alloc X.w _).trans (grew_alloc _ _);obtain⟨M1,L1⟩:=mem_grew R.mem hgrow;have hD1:w1.heap[D]? =some (.deferred (some [])):=(heap_old _ _ _ (by simp[D])).trans (heap_new X.w _);have hl1:w1.heap[D+1]? =some (.loop rc):=by
  have:=heap_new (X.w.alloc (.deferred (some []))) (.loop rc);rwa [show(X.w.alloc (.deferred (some []))).heap.size=D+1 by simp[D]] at this
 have hbD:b.w.heap.size≤D:=R.mem.size;obtain⟨M2,L2⟩:=mem_pin M1 hD1 (fun _ _ _ h=>by cases h) hbD;have hS1:¬(X.S (D+1)∨D+1=D):=by
  rintro(h|h)
  ·have:=R.mem.stab _ h;omega
  ·omega
 have hM:∀E∈D::Ds,b.w.heap.size≤E∧(X.S E∨E=D)∧w1.heap[E]? =some (.deferred (some [])):=by
  intro E hE;rcases List.mem_cons.1 hE with rfl|hE
  ·exact⟨hbD,.inr rfl,hD1⟩
  ·obtain⟨g1,g2,g3⟩:=hall E hE;exact⟨g1,.inl g2,by rw[hgrow.keep E (R.mem.stab E g2)];exact g3⟩
 have hnd2:(D::Ds).Nodup:=List.nodup_cons.2 ⟨fun h=>by have:=R.mem.stab D (hall D h).2.1;omega,hnd⟩;let a2:Act:={a with defers:={target:= .collected D,args:= #[]}::a.defers}
 have hds2:a2.defers=(D::Ds).map (fun D=>{target:= .collected D,args:= #[]}):=by show _::a.defers=_;rw[hds];rfl
 let I:World→St→(Nat→Prop)→Prop:=fun W s' U=>∃X':Ctx,X'.w=W∧Rel b X' s' a2∧¬X'.S (D+1)∧∀k,U k↔Rows' X' k∨k=D+1
 let J:Nat→(Nat→Prop)→World→Prop:=fun i U W=>W.heap[D+1]? =some (.loop rc)∧∃s',I W s' U∧Rnds P T n ps assign body k (xs.drop i) s'
 let Jx:World→Prop:=fun W=>∃c s' U,W.heap[D+1]? =some (.loop {rc with state:= .done,pending:=some c})∧I W s' U∧Goes P T n (.code c::k) s'
 have hIgrew:∀W W' s' U,Grew W W'→I W s' U→I W' s' U:=by
  rintro W W' s' U hgw ⟨X',rfl,R',hS',hU⟩
  obtain⟨M',L'⟩:=mem_grew R'.mem hgw;exact⟨_,rfl,⟨M',L'.ds R'.tmps,R'.heap,R'.len,R'.defers.le L'⟩,hS',hU⟩
 let X0:Ctx:=⟨X.ρ,X.H,fun k=>X.S k∨k=D,w1⟩
 have hI0:I w1 s (fun k=>Rows' X0 k∨k=D+1):=⟨X0,rfl,⟨M2,L2.ds (L1.ds R.tmps),R.heap,R.len,hlow,D::Ds,hds2,hnd2,hM⟩,hS1,fun k=>Iff.rfl⟩;have hround:∀i x U W,xs[i]? =some x→J i U W→Yields P (D+1) x W fun c w'=>Kept U W w'∧if c then∃U',J (i+1) U' w'∧∀k,U' k→U k∨W.heap.size≤k else Jx w':=by
  rintro i x U W hx ⟨hrec,s',⟨X',rfl,R',hS',hU⟩,hrnds⟩
  have hdrop:xs.drop i=x::xs.drop (i+1):=by
   obtain⟨hi,he⟩:=List.getElem?_eq_some_iff.1 hx;rw[List.drop_eq_getElem_cons hi,he]
  rw[hdrop] at hrnds;obtain⟨hxl,hlive,hnl,hgo⟩:=hrnds;have hliveX:Solid X'.H:=by rw[R'.heap];exact hlive
  have hy:=run_yield (P:=P) (args:=x.toArray) hrec (by simp[rc,hxl]);refine⟨_,_,_,_,hy,fun c cs'=> ?_⟩;let b0:Frame:={(default:Frame) with fn:=fr.fn,kind:= .normal,roundOf:=some (D+1)}
  let tm:=(ps.zip x.toArray).foldl (fun t (p,v)=>t.setIfInBounds p v) a.tmps
  have hfr0:Frame.round (D+1) fr.fn tm assign body .normal=b0.atR {tmps:=tm,defers:=[]} [.code assign,.beginRound,.code body]:=by
   simp[Frame.round,Frame.atR,b0]
  have Mr:=mem_self R'.mem;have Rr:Rel (Beg.of X') X' ⟨putPs s'.tmps ps.toList x,s'.heap⟩ {tmps:=tm,defers:=[]}:=
   ⟨Mr,relDs_putPs R'.tmps ps x,R'.heap,by show X'.H.length≤s'.heap.length;rw[R'.heap];exact Nat.le_refl _,R'.mem.stab,[],rfl,List.nodup_nil,fun D h=>by simp at h⟩
  have hnB:¬(Beg.of X').B (D+1):=by
   rintro⟨id,l,h1,h2,h3⟩
   obtain⟨g1,g2⟩:=beg_some h2;obtain⟨r,hr⟩:=Option.ne_none_iff_exists'.1 g1;exact row_block R'.mem hrec (loop_ne rc) hr g2 _ h3 rfl
  obtain⟨j,X2,s2,a3,todo,hsteps,hend,R2,hbec,hΨ⟩:=hgo (D+1) rc rfl (Beg.of X') X' _ b0 (c::cs') rfl (by show X'.H.length=_;rw[R'.heap]) (fun _=>rfl) Rr hrec hS' hnB;have hlt:D+1<X'.w.heap.size:=(Array.getElem?_eq_some_iff.1 hrec).1;have hrec2:X2.w.heap[D+1]? =some (.loop {rc with state:= .busy}):=by
   have:=R2.mem.keep (D+1) (by show D+1< (X'.w.putObj _ _).heap.size;rw[World.putObj_size];exact hlt) hnB;rw[this];exact World.putObj_heap_same hlt
  have hS2:¬X2.S (D+1):=by
   intro h;rcases R2.mem.sup _ h with h|h|h
   ·exact hS' h
   ·have:(X'.w.putObj (D+1) (.loop {rc with state:= .busy})).heap.size≤D+1:=h;rw[World.putObj_size] at this;omega
   ·exact hnB h
  have hlp:=putX_le (X:=X') (o:= .loop {rc with state:= .busy}) hS';have M3:Mem b (putX X' (D+1) (.loop {rc with state:= .busy})):=mem_put R'.mem hrec (loop_ne rc) hS' (by omega);have hM2:Mem (Beg.of (putX X' (D+1) (.loop {rc with state:= .busy}))) X2:=R2.mem;have hlen:b.n≤X'.H.length:=by rw[R'.heap];exact R'.len
  have hbec':Became X'.H X2.H:=by rw[R'.heap,R2.heap];exact hbec
  have M4:Mem b X2:=mem_trans M3 hliveX hlen hbec' hM2;have L4:Le X' X2:=hlp.trans (le_trans' M3 hM2 hbec');have M5:∀o,Mem b (putX X2 (D+1) o):=fun o=>mem_put M4 hrec2 (loop_ne _) hS2 (by omega);have L5:∀o,Le X' (putX X2 (D+1) o):=fun o=>L4.trans (putX_le hS2);have R5:∀o,Rel b (putX X2 (D+1) o) ⟨s'.tmps,s2.heap⟩ a2:=fun o=>
   ⟨M5 o,(L5 o).ds R'.tmps,R2.heap,by
    have h1:X'.H.length≤s2.heap.length:=R2.len;exact Nat.le_trans hlen h1,R'.defers.le (L5 o)⟩
  have hB:∀k,(Beg.of (putX X' (D+1) (.loop {rc with state:= .busy}))).B k→Rows' X' k:=by
   rintro k ⟨id,l,h1,h2,h3⟩
   exact⟨id,l,(beg_some h2).1,(beg_some h2).2,h3⟩
  have hkept:∀o,Kept U X'.w (X2.w.putObj (D+1) o):=by
   intro o;refine⟨?_,fun k hk hu=> ?_⟩
   ·rw[World.putObj_size];have:=R2.mem.size;have h0:(X'.w.putObj (D+1) (.loop {rc with state:= .busy})).heap.size≤X2.w.heap.size:=this;rw[World.putObj_size] at h0;exact h0
   ·have hne:k≠D+1:=fun e=>hu ((hU k).2 (.inr e));rw[putObj_ne k hne];have:=hM2.keep k (by show k< (X'.w.putObj _ _).heap.size;rw[World.putObj_size];exact hk) (fun hb=>hu ((hU k).2 (.inl (hB k hb))));rw[this];exact putObj_ne k hne
  have hfr2:∀k,Rows' X2 k→U k∨X'.w.heap.size≤k:=by
   rintro k ⟨id,l,h1,h2,hk⟩
   rcases hM2.fresh id l h1 h2 k hk with h|h
   ·refine .inr ?_;have h0:(X'.w.putObj (D+1) (.loop {rc with state:= .busy})).heap.size≤k:=h;rw[World.putObj_size] at h0;exact h0
   ·exact .inl ((hU _).2 (.inl (hB _ h)))
  have hlt2:D+1<X2.w.heap.size:=(Array.getElem?_eq_some_iff.1 hrec2).1;have endn:∀jump,(Instr.endRound (D+1) jump).run P X2.w= .ok (.bool jump.isNone) (X2.w.putObj (D+1) (.loop {({rc with state:= .busy}:Loop) with state:=if jump.isNone then .ready else .done,pending:=jump})):=fun jump=>run_endRound jump hrec2;rw[←hfr0] at hsteps;have stop:∀cd:Code,Goes P T n (.code cd::k) ⟨s'.tmps,s2.heap⟩→Jx (X2.w.putObj (D+1) (.loop {rc with state:= .done,pending:=some cd})):=fun cd hcd=>
   ⟨cd,_,_,World.putObj_heap_same hlt2,⟨putX X2 (D+1) (.loop {rc with state:= .done,pending:=some cd}),rfl,R5 _,hS2,fun k=>Iff.rfl⟩,hcd⟩
  match j,hend,hΨ with
  |none,hend,hΨ=>
   have hend:todo=[]:=hend;subst hend;obtain⟨s'',hsame,hrn⟩:=hΨ;obtain⟨X6,⟨hw6,hS6,hblk⟩,R6⟩:=hsame b _ a2 hb (R5 (.loop rc));refine⟨true,X2.w.putObj (D+1) (.loop rc),⟨hkept _,fun k=>Rows' X6 k∨k=D+1,?_,?_⟩,Steps.last hsteps ?_⟩
   ·exact⟨World.putObj_heap_same hlt2,s'',⟨X6,hw6,R6,by rw[hS6];exact hS2,fun k=>Iff.rfl⟩,hrn⟩
   ·rintro k (⟨id,l,h1,h2,h3⟩|rfl)
    ·obtain⟨id',g1,l',g2,g3⟩:=hblk id l h1 h2 k h3;exact hfr2 _ ⟨id',l',g1,g2,g3⟩
    ·exact .inl ((hU _).2 (.inr rfl))
   ·exact stepR_round_end rfl rfl (endn none)
  |some .ret,hend,hΨ=>
   obtain⟨r,rfl⟩:=hend;exact⟨false,_,⟨hkept _,stop .ret hΨ⟩,Steps.last hsteps (stepR_round_ret rfl rfl (endn (some .ret)))⟩
  |some (.exit id),hend,hΨ=>
   obtain⟨r,rfl,hx2⟩:=hend;exact⟨false,_,⟨hkept _,stop (.exit id) hΨ⟩,Steps.last hsteps (stepR_round_exit rfl rfl hx2 (endn (some (.exit id))))⟩
 have hcall:=it.run (D+1) lb X0.S J Jx (fun i U W ⟨h0,s',⟨X',hw',R',_,hU⟩,_⟩ k hk=>by
   rcases(hU k).1 hk with⟨id,l,h1,h2,h3⟩|rfl
   ·rw[←hw'];exact R'.mem.lts h1 h2 _ h3
   ·exact(Array.getElem?_eq_some_iff.1 h0).1)
  (fun i U W W' hgw ⟨h1,s',h2,h3⟩=>⟨by rw[hgw.keep _ (Array.getElem?_eq_some_iff.1 h1).1];exact h1,s',hIgrew W W' s' U hgw h2,h3⟩)
  (fun W W' hgw ⟨c,s',U,h1,h2,h3⟩=>⟨c,s',U,by rw[hgw.keep _ (Array.getElem?_eq_some_iff.1 h1).1];exact h1,hIgrew W W' s' U hgw h2,h3⟩)
  hround (fun k=>Rows' X0 k∨k=D+1) w1 ⟨hl1,s,hI0,by rw[List.drop_zero];exact hR⟩
  (fun k hk=>⟨M2.stab k hk,by
   rintro(⟨id,l,h1,h2,h3⟩|rfl)
   ·exact M2.sep id l h1 h2 k h3 hk
   ·exact hS1 hk⟩) M2.glob (bare_rel hcl (L2.ds (L1.ds hcaps)))
 obtain⟨e,w3,fr3,⟨⟨v,rfl⟩,hJ⟩,hs3,_,hleave⟩:=hcall (fr.atR a2 (.inRangeFunc (D+1)::k)::cs);have henterL:(Instr.enterLoop fr.fn a.tmps ps assign body fr.roundOf).run P X.w= .ok (D+1,[{target:= .collected D,args:= #[]}]) w1:=by
  rw[hfr];exact run_enterLoop_outer _ _ _ _ _
 have heg:∀args w,(callFunc gf args).run P w= .ok (.enter gf args) w:=by
  intro args w;have h1':fn.name≠ "runtime.NumGoroutine" :=by simpa using hname
  have h2':fn.body≠none:=fun e=>by rw[e] at hbody;cases hbody
  simp[callFunc,go_sem,hfn,h1',h2']
 have hres:(resolve a.eval (rangeCall g (D+1)) 0).run P w1= .ok {target:= .fn (.func gf) lb.toArray,args:= #[.func (.yield (D+1)) #[] #[]]} w1:=by
  simp only[resolve,elb];simp[go_sem]
 have hinv:(invoke (.fn (.func gf) lb.toArray) #[.func (.yield (D+1)) #[] #[]]).run P w1= .ok (.enter gf (#[.func (.yield (D+1)) #[] #[]]++lb.toArray)) w1:=by
  simp[invoke,go_sem,heg]
 have hstep:=stepR_rangeFunc (P:=P) (b:=fr) (a:=a) (k:=k) (cs:=cs) (w:=X.w) henterL hres hinv;refine T.back _ _ _ _ _ hstep ?_;obtain⟨n3,hn3⟩:=hs3;refine T.steps n3 hn3 ?_;refine T.back _ _ _ _ _ (step_leave_returned hleave) ?_;have efin:(fr.atR a2 (.inRangeFunc (D+1)::k)).finish v=fr.atR a2 (.endRangeFunc (D+1)::k):=finish_atR_inRangeFunc _ _;rw[efin];rcases hJ with⟨U',hrec,s',⟨X',rfl,R',hS',_⟩,hrn⟩|⟨c,s',U',hrec,⟨X',rfl,R',hS',_⟩,hgo⟩
 ·rw[List.drop_length] at hrn;refine T.back _ _ _ _ _ (stepR_endRangeFunc (run_endLoop hrec (by simp[rc]))) ?_;have M6:=mem_put (o':= .loop {rc with state:= .exhausted}) R'.mem hrec (loop_ne rc) hS' (by omega);have L6:=putX_le (X:=X') (o:= .loop {rc with state:= .exhausted}) hS';exact hrn b _ a2 fr cs (by rw[hfr,hro]) hb (fun h=>by rw[hnm] at h;cases h) ⟨M6,L6.ds R'.tmps,R'.heap,R'.len,R'.defers.le L6⟩
 ·refine T.back _ _ _ _ _ (stepR_endRangeFunc (run_endLoop hrec (by simp))) ?_;have M6:=mem_put (o':= .loop {({rc with state:= .done,pending:=some c}:Loop) with state:= .exhausted}) R'.mem hrec (loop_ne _) hS' (by omega);have L6:=putX_le (X:=X') (o:= .loop {({rc with state:= .done,pending:=some c}:Loop) with state:= .exhausted}) hS';exact hgo b _ a2 fr cs (by rw[hfr,hro]) hb (fun h=>by rw[hnm] at h;cases h) ⟨M6,L6.ds R'.tmps,R'.heap,R'.len,R'.defers.le L6⟩
def pC (f:Code→Bool):Code→List Item→List (List Item)
 | .seq x y,k=>pC f x (.code y::k)++pC f y k
 | .cond _ x y,k=>pC f x k++pC f y k
 | .block id c,k=>pC f c (.inBlock id::k)
 | .scope c,k=>pC f c (.inScope c::k)
 | .loop c,k=>pC f c (.inLoop c::k)
 | .region id o d,k=>if f (.region id o d) then [.code (.region id o d)::k] else []
 | .rangeFunc g p a b,k=>if f (.rangeFunc g p a b) then [.code (.rangeFunc g p a b)::k] else []
 |_,_=> []
def isRF:Code→Bool
 | .rangeFunc _ _ _ _=>true
 |_=>false
def isReg:Code→Bool
 | .region _ _ _=>true
 |_=>false
def FF (c:Code) (i:Nat):List Item:=(pC isRF c []).getD i []
def RR (c:Code) (i:Nat):List Item:=(pC isReg c []).getD i []
def KX (c:Code) (i:Nat):List Item:=
 if i<100 then KK c i else if i<200 then FF c (i-100) else if i<300 then RR c (i-200) else if i<400 then(FF c (i-300)).tail
 else if i<500 then(RR c (i-400)).tail else if i<600 then .code .ret::(FF c (i-500)).tail else .code (.exit ((i-600)%20))::(FF c ((i-600)/20)).tail
def rfG:List Item→Operand
 | .code (.rangeFunc g _ _ _)::_=>g
 |_=> .tmp 0
def rfP:List Item→Array Tmp
 | .code (.rangeFunc _ p _ _)::_=>p
 |_=> #[]
def rfA:List Item→Code
 | .code (.rangeFunc _ _ a _)::_=>a
 |_=> .skip
def rfB:List Item→Code
 | .code (.rangeFunc _ _ _ b)::_=>b
 |_=> .skip
def endRnd (n:Nat) (pre:List (Option Row)) (ts:List D) (keep:Option Code→List Nat) (co:Option Code→List Co) (GN:St→Prop) (GJ:Code→St→Prop) (j:Option Code) (s:St):Prop:=
 match optsOf (s.heap.take pre.length) with
 |some post=>match shapeEqO pre post with
  |some qs=>andL qs (match normV n (keep j) (coeS (co j) ⟨ts,s.heap⟩) with
   |some s'=>match j with
    |none=>GN s'
    |some c=>GJ c s'
   |none=>Stuck 3001)
  |none=>Stuck 3002
 |none=>Stuck 3003
def vcRnd (P:Program) (sp:Sp) (n:Nat) (ps:List Tmp) (assign body:Code) (keepA:List Nat) (K:Nat→List Item) (keep:Nat→List Nat) (co:Nat→List Co) (keepR:Option Code→List Nat) (coR:Option Code→List Co)
  (G:Nat→St→Prop) (GN:St→Prop) (GJ:Code→St→Prop) (f:Nat) (h:Hint) (x:List Value) (s:St):Prop:=
 match optsOf s.heap with
 |some pre=>if n≤pre.length then
   vcX P sp pre.length (fun _=> [.beginRound,.code body]) (fun _=>keepA) (fun _=> []) (fun _ _=>Stuck 3000)
    (fun _ s1=>vcX P sp pre.length K keep co (endRnd n pre s.tmps keepR coR GN GJ) G f [.code body] h s1) 60 [.code assign,.beginRound,.code body] (.cut 0) ⟨putPs s.tmps ps x,s.heap⟩
  else Stuck 3004
 |none=>Stuck 3005
theorem normV_same {n:Nat} {keep:List Nat} {co:List Co} {s s':St} (h:normV n keep (coeS co s)=some s'):Same n s s':=by
 intro b X a hb R;obtain⟨X1,h1,R1⟩:=coeS_rel co R;obtain⟨X2,h2,R2⟩:=normV_rel R1 hb h;exact⟨X2,h1.trans h2,R2⟩
def RndEnd (P:Program) (T:Goal P) (n:Nat) (ps:Array Tmp) (assign body:Code) (k:List Item) (xs:List (List Value)) (s:St) (j:Option Code) (s':St):Prop:=
 Became s.heap s'.heap∧match j with
  |none=>∃s'',Same n ⟨s.tmps,s'.heap⟩ s''∧Rnds P T n ps assign body k xs s''
  |some c=>Goes P T n (.code c::k) ⟨s.tmps,s'.heap⟩
theorem rndEnd_of {P:Program} {T:Goal P} {n:Nat} {ps:Array Tmp} {assign body:Code} {k:List Item} {xs:List (List Value)} {s:St} {pre:List (Option Row)} {keepR:Option Code→List Nat} {coR:Option Code→List Co} {GN:St→Prop} {GJ:Code→St→Prop}
  (hpre:optsOf s.heap=some pre) (hN:∀s,GN s→Rnds P T n ps assign body k xs s) (hJ:∀c s,GJ c s→Goes P T n (.code c::k) s) (j:Option Code) (s':St) (h:endRnd n pre s.tmps keepR coR GN GJ j s'):RndEnd P T n ps assign body k xs s j s':=by
 unfold endRnd at h;split at h
 ·rename_i post hp;split at h
  ·rename_i qs hs;obtain⟨hq,h⟩:=andL_iff h;refine⟨became_of_shape hpre hp hs hq,?_⟩;split at h
   ·rename_i s2 hn;cases j with
    |none=>exact⟨s2,normV_same hn,hN s2 h⟩
    |some c=>exact .coe _ (.normV hn (hJ c s2 h))
   ·exact h.elim
  ·exact h.elim
 ·exact h.elim
def BodyK (P:Program) (T:Goal P) (n:Nat) (ps:Array Tmp) (assign body:Code) (k:List Item) (xs:List (List Value)) (s:St) (nr:Nat) (K:Nat→List Item) (i:Nat) (s1:St):Prop:=
 ∀l,Goes P (bodyGoal P l (RndEnd P T n ps assign body k xs s)) nr (K i) s1
theorem rnds_cons {P:Program} {T:Goal P} {n:Nat} {ps:Array Tmp} {assign body:Code} {k:List Item} {x:List Value} {xs:List (List Value)} {s:St} {sp:Sp} {keepA:List Nat} {K:Nat→List Item} {keep:Nat→List Nat} {co:Nat→List Co} {keepR:Option Code→List Nat} {coR:Option Code→List Co}
  {GN:St→Prop} {GJ:Code→St→Prop} {G:Nat→St→Prop} {f:Nat} {h:Hint} (hm:P.follows .mixedOrders=true) (hx:x.length=ps.size)
  (hN:∀s,GN s→Rnds P T n ps assign body k xs s) (hJ:∀c s,GJ c s→Goes P T n (.code c::k) s) (hG:∀i s1,G i s1→BodyK P T n ps assign body k xs s s.heap.length K i s1)
  (hv:vcRnd P sp n ps.toList assign body keepA K keep co keepR coR G GN GJ f h x s):Rnds P T n ps assign body k (x::xs) s:=by
 unfold vcRnd at hv;split at hv
 ·rename_i pre hpre;split at hv
  ·rename_i hn;have e:=optsOf_some hpre;have hlen:s.heap.length=pre.length:=by rw[e,List.length_map]
   refine⟨hx,by
    intro id hid;unfold slot;rw[e,gE,List.getElem?_map,gQ (by rw[e,List.length_map] at hid;exact hid)];show slotOf _≠_;cases pre[id]'(by rw[e,List.length_map] at hid;exact hid)<;>simp[slotOf],by rw[hlen];exact hn,fun l rc hr=> ?_⟩
   rw[hlen];refine rnd_vc hm hr (fun s1 hs1=> ?_) hv;exact body_vc hm (fun i s2 hg=>by
    have:=hG i s2 hg l;rw[hlen] at this;exact this) (fun j s' hj=>rndEnd_of hpre hN hJ j s' hj) _ _ _ _ hs1
  ·exact hv.elim
 ·exact hv.elim
structure RndsK (P:Program) (c:Code) (rs:List ResultVar) (how:List (Option Ty)) (n:Nat) (r:D×List (Option Row)×List Row) (i:Nat) (xs:List (List Value)) (s:St):Prop where
 out:Rnds P (fnGoal P (Ends P n rs how r)) n (rfP (FF c i)) (rfA (FF c i)) (rfB (FF c i)) (FF c i).tail xs s
theorem rndsK_nil {P:Program} {c:Code} {rs:List ResultVar} {how:List (Option Ty)} {n:Nat} {r:D×List (Option Row)×List Row} {i:Nat} {s:St} (hi:i<100) (h:GetsK P rs how (KX c) n r (300+i) s):RndsK P c rs how n r i [] s:=by
 refine⟨?_⟩;have e:KX c (300+i)=(FF c i).tail:=by
  unfold KX;rw[if_neg (by omega),if_neg (by omega),if_neg (by omega),if_pos (by omega),Nat.add_sub_cancel_left]
 have:=h.out;rw[e] at this;exact this
theorem jump_ret {P:Program} {c:Code} {rs:List ResultVar} {how:List (Option Ty)} {n:Nat} {r:D×List (Option Row)×List Row} {i:Nat} (hi:i<100) {s:St} (h:GetsK P rs how (KX c) n r (500+i) s):Goes P (fnGoal P (Ends P n rs how r)) n (.code .ret::(FF c i).tail) s:=by
 have e:KX c (500+i)= .code .ret::(FF c i).tail:=by
  unfold KX;rw[if_neg (by omega),if_neg (by omega),if_neg (by omega),if_neg (by omega),if_neg (by omega),if_pos (by omega),Nat.add_sub_cancel_left]
 have:=h.out;rw[e] at this;exact this
theorem jump_exit {P:Program} {c:Code} {rs:List ResultVar} {how:List (Option Ty)} {n:Nat} {r:D×List (Option Row)×List Row} {i id:Nat} (hid:id<20) {s:St} (h:GetsK P rs how (KX c) n r (600+20*i+id) s):Goes P (fnGoal P (Ends P n rs how r)) n (.code (.exit id)::(FF c i).tail) s:=by
 have e:KX c (600+20*i+id)= .code (.exit id)::(FF c i).tail:=by
  unfold KX;rw[if_neg (by omega),if_neg (by omega),if_neg (by omega),if_neg (by omega),if_neg (by omega),if_neg (by omega),show(600+20*i+id-600)%20=id by omega,show(600+20*i+id-600)/20=i by omega]
 have:=h.out;rw[e] at this;exact this
def jumpG (P:Program) (rs:List ResultVar) (how:List (Option Ty)) (K:Nat→List Item) (n:Nat) (r:D×List (Option Row)×List Row) (i:Nat):Code→St→Prop
 | .ret,s=>GetsK P rs how K n r (500+i) s
 | .exit id,s=>id<20∧GetsK P rs how K n r (600+20*i+id) s
 |_,_=>False
theorem jump_goes {P:Program} {c:Code} {rs:List ResultVar} {how:List (Option Ty)} {n:Nat} {r:D×List (Option Row)×List Row} {i:Nat} (hi:i<100) (cd:Code) (s:St) (h:jumpG P rs how (KX c) n r i cd s):Goes P (fnGoal P (Ends P n rs how r)) n (.code cd::(FF c i).tail) s:=by
 cases cd with
 |ret=>exact jump_ret hi h
 |exit id=>exact jump_exit h.1 h.2
 |_=>exact h.elim
theorem rndsK_cons {P:Program} {c:Code} {rs:List ResultVar} {how:List (Option Ty)} {n:Nat} {r:D×List (Option Row)×List Row} {i:Nat} {x:List Value} {xs:List (List Value)} {s:St} (sp:Sp) (keepA:List Nat) (keepR:Option Code→List Nat) (coR:Option Code→List Co) (f:Nat) (h:Hint)
  {V:(St→Prop)→(Code→St→Prop)→Prop} (hm:P.follows .mixedOrders=true) (hi:i<100) (hx:x.length=(rfP (FF c i)).size)
  (hv:∀GN GJ,vcRnd P sp n (rfP (FF c i)).toList (rfA (FF c i)) (rfB (FF c i)) keepA (fun _=> []) (fun _=> []) (fun _=> []) keepR coR (fun _ _=>False) GN GJ f h x s=V GN GJ)
  (hV:V (RndsK P c rs how n r i xs) (jumpG P rs how (KX c) n r i)):RndsK P c rs how n r i (x::xs) s:=by
 rw[←hv] at hV;exact⟨rnds_cons hm hx (fun _ h=>h.out) (jump_goes hi) (fun _ _ h=>h.elim) hV⟩
theorem getsK_range {P:Program} {c:Code} {rs:List ResultVar} {how:List (Option Ty)} {n:Nat} {r:D×List (Option Row)×List Row} {i:Nat} {s:St} {gf:FuncId} {caps:List D} {xs:List (List Value)} (hi:i<100)
  (hc:isRF ((match FF c i with| .code x::_=>x|_=> .skip))=true) (hg:evalD s.tmps (rfG (FF c i))= .fn gf caps) (hcl:renDs (pos []) caps=caps∧inB [] (refsDs caps)=true) (it:IterP P gf caps xs) (hR:RndsK P c rs how n r i xs s):GetsK P rs how (KX c) n r (100+i) s:=by
 refine⟨?_⟩;have e:KX c (100+i)=FF c i:=by
  unfold KX;rw[if_neg (by omega),if_pos (by omega),Nat.add_sub_cancel_left]
 rw[e];have hR:=hR.out;cases hff:FF c i with
 |nil=>rw[hff] at hc;cases hc
 |cons it0 k=>
  rw[hff] at hc hg hR;cases it0 with
  |code x=>
   cases x with
   |rangeFunc g p a b=>exact goes_range rfl rfl hg hcl it hR
   |_=>cases hc
  |_=>cases hc
def itGoal (P:Program) (J:Nat→(Nat→Prop)→World→Prop) (Jx:World→Prop) (N i:Nat):Goal P where
 ro:=none
 nd:=true
 Q:=fun b fr cs m=>∀U,J i U b.w→(∀k,b.S k→k<b.w.heap.size∧¬U k)→∃w' a' todo,Steps P m (lone {fr.atR a' todo with mode:= .returning} cs w')∧a'.defers=[]∧((∃U',J N U' w')∨Jx w')
 back:=by
  intro b fr cs m m' hs h U h1 h2;obtain⟨w',a',todo,h3,h4⟩:=h U h1 h2;exact⟨w',a',todo,Steps.head hs h3,h4⟩
def itStop (P:Program) (Jx:World→Prop):Goal P where
 ro:=none
 nd:=true
 Q:=fun b fr cs m=>Jx b.w→∃w' a' todo,Steps P m (lone {fr.atR a' todo with mode:= .returning} cs w')∧a'.defers=[]∧Jx w'
 back:=by
  intro b fr cs m m' hs h h1;obtain⟨w',a',todo,h3,h4⟩:=h h1;exact⟨w',a',todo,Steps.head hs h3,h4⟩
theorem grew_of {b:Beg} {X:Ctx} (M:Mem b X) (h0:b.n=0):Grew b.w X.w:=
 ⟨M.os,M.tape,M.output,M.size,fun k hk=>M.keep k hk (by rintro⟨id,l,h1,_⟩;omega)⟩
section
variable {P:Program} {J:Nat→(Nat→Prop)→World→Prop} {Jx:World→Prop} {N:Nat} {s:St} {k:List Item}
theorem it_end (hJg:∀i U w w',Grew w w'→J i U w→J i U w') (hk:k=[]∨∃r,k= .code .ret::r):Goes P (itGoal P J Jx N N) 0 k s:=by
 intro b X a fr cs hr hb hd R U h1 h2;refine⟨X.w,a,k,.one ?_,hd rfl,.inl ⟨U,hJg _ _ _ _ (grew_of R.mem hb) h1⟩⟩;rcases hk with rfl|⟨r,rfl⟩
 ·exact stepR_end hr
 ·exact stepR_ret hr
theorem it_stop (hJg:∀w w',Grew w w'→Jx w→Jx w') (hk:k=[]∨∃r,k= .code .ret::r):Goes P (itStop P Jx) 0 k s:=by
 intro b X a fr cs hr hb hd R h1;refine⟨X.w,a,k,.one ?_,hd rfl,hJg _ _ (grew_of R.mem hb) h1⟩;rcases hk with rfl|⟨r,rfl⟩
 ·exact stepR_end hr
 ·exact stepR_ret hr
def noRow (H:Heap):Bool:=H.all fun s=>match s with
 | .live _=>false
 |_=>true
theorem noRow_get {H:Heap} (h:noRow H=true) (id:Nat):hget H id=none:=by
 cases hs:slot H id with
 |free=>exact hget_free hs
 |dead=>unfold hget;rw[hs]
 |live r=>
  exfalso;have hi:id<H.length:=lt_of_slot (by rw[hs];simp);have:=List.all_eq_true.1 h H[id] (List.getElem_mem hi);unfold slot at hs;rw[gE,gQ hi] at hs;have hs:H[id]= .live r:=hs;rw[hs] at this;cases this
theorem mem_anew {b:Beg} {X:Ctx} (M:Mem b X) (hb:b.n=0) (hno:noRow X.H=true) {U:Nat→Prop} {w':World} (hU:∀k,U k→k<b.w.heap.size) (hbU:∀k,b.S k→¬U k) (hk:Kept U X.w w'):
  Mem ⟨w',X.ρ,X.S,0⟩ ⟨X.ρ,X.H,X.S,w'⟩∧Le X ⟨X.ρ,X.H,X.S,w'⟩∧(∀k,X.S k→k<X.w.heap.size∧¬U k):=by
 have hSU:∀k,X.S k→k<X.w.heap.size∧¬U k:=by
  intro k h;refine⟨M.stab k h,fun hu=> ?_⟩;rcases M.sup k h with h1|h1|⟨id,l,h1,_⟩
  ·exact hbU k h1 hu
  ·have:=hU k hu;omega
  ·omega
 have hle:Le X ⟨X.ρ,X.H,X.S,w'⟩:=by
  refine⟨fun k h=>⟨h,hk.keep k (hSU k h).1 (hSU k h).2⟩,fun id=> ?_⟩;unfold Pair;show match slot X.H id,slot X.H id with
   | .free,_=>True
   |_,.free=>False
   |_,.dead=>True
   | .dead,.live _=>False
   | .live r,.live r'=>Comp r r'∧(X.ρ id).map Loc.toPl=(X.ρ id).map Loc.toPl
  cases slot X.H id with
  |free=>trivial
  |dead=>trivial
  |live r=>exact⟨Comp.refl r,rfl⟩
 have hn:∀id,hget X.H id=none:=noRow_get hno;refine⟨⟨rfl,rfl,rfl,Nat.le_refl _,fun i j p q h=>absurd (hn i) h,fun id r h=>(by rw[show hget X.H id=none from hn id] at h;cases h),fun id p h=>absurd (hn id) h,fun k h=>Nat.lt_of_lt_of_le (hSU k h).1 hk.size,fun _ _ _=>rfl,fun id p h=>absurd (hn id) h,fun id h=>absurd h (Nat.not_lt_zero id),fun _ h=>h,fun _ h=> .inl h,M.glob.le hle.st,fun id r p h=>(by rw[show hget X.H id=none from hn id] at h;cases h)⟩,hle,hSU⟩
theorem relDs_map_eval {X:Ctx} {s:St} {a:Act} {b:Beg} (M:Mem b X) (hT:RelDs X s.tmps a.tmps.toList):∀(l:List Operand) {x:List Value},l.map (evalD s.tmps)=x.map .v→l.map a.eval=x
 | [],x,h=>by
  cases x with
  |nil=>rfl
  |cons y x=>simp at h
 |o::l,x,h=>by
  cases x with
  |nil=>simp at h
  |cons y x=>
   simp only[List.map_cons,List.cons.injEq] at h;have h1:=evalD_rel M hT o;rw[h.1] at h1;simp only[RelD] at h1;simp only[List.map_cons];rw[h1,relDs_map_eval M hT l h.2]
theorem it_yield {ops:Array Oper} {id j l i:Nat} {s1:St} {sp:Sp} {ps:List Prop} {o:Oper} {c:Call} {f:Operand} {d:Tmp} {x:List Value} {xs:List (List Value)} {s2:Bool→St} {qs:Bool→List Prop} {N:Nat}
  (hJU:∀i U w,J i U w→∀k,U k→k<w.heap.size) (hJg:∀i U w w',Grew w w'→J i U w→J i U w')
  (hY:∀i x U w,xs[i]? =some x→J i U w→Yields P l x w fun c w'=>Kept U w w'∧if c then∃U',J (i+1) U' w'∧∀k,U' k→U k∨w.heap.size≤k else Jx w')
  (hnd:noDefer ops=true) (hlt:j<ops.size)
  (h1:runD P ops ((decs sp [] 0 s.heap.length ops.toList).take j) ⟨s.tmps,s.heap++List.replicate (total sp ops.toList) .free⟩=some (s1,ps)) (hps:∀p∈ps,p)
  (ho:ops[j]? =some o) (hop:o.op= .call c) (hcal:c.callee= .value f) (hdst:o.dst=some d) (hgd:o.guard=none)
  (hf:evalD s1.tmps f= .v (.func (.yield l) #[] #[])) (hargs:c.args.toList.map (evalD s1.tmps)=x.map .v) (hx:xs[i]? =some x) (hno:noRow s1.heap=true)
  (h2:∀t,runD P ops ((decs sp [] 0 s.heap.length ops.toList).drop (j+1)) ⟨s1.tmps.set d (.v (.bool t)),s1.heap⟩=some (s2 t,qs t)) (hqs:∀t,∀q∈qs t,q)
  (hgo:Goes P (itGoal P J Jx N (i+1)) 0 k (s2 true)) (hstop:Goes P (itStop P Jx) 0 k (s2 false)):Goes P (itGoal P J Jx N i) 0 (.code (.region id ops false)::k) s:=by
 intro b X a fr cs hr hb hd R U hJ hSU;have hdl:(decs sp [] 0 s.heap.length ops.toList).length=ops.size:=by rw[decs_length];simp
 have hidx:∀(p q:Nat),(((List.range ops.size).drop p).take q).map (fun i=>ops[i]?)=(((decs sp [] 0 s.heap.length ops.toList).drop p).take q).map (fun d=>some d.o):=by
  intro p q;have h0:(List.range ops.size).map (fun i=>ops[i]?)=(decs sp [] 0 s.heap.length ops.toList).map (fun d=>some d.o):=by
   apply List.ext_getElem?;intro k;rw[List.getElem?_map,List.getElem?_map];rcases Nat.lt_or_ge k ops.size with hk|hk
   ·rw[List.getElem?_range hk];have hk2:k< (decs sp [] 0 s.heap.length ops.toList).length:=by rw[hdl];exact hk
    have h1:=(decs_get sp [] ops.toList 0 _ k (gQ hk2)).1;rw[Array.getElem?_toList] at h1;rw[gQ hk2];simp only[Option.map_some,h1]
   ·rw[List.getElem?_eq_none (by simpa using hk),List.getElem?_eq_none (by rw[hdl];exact hk)];rfl
  rw[List.map_take,List.map_drop,List.map_take,List.map_drop,h0]
 obtain⟨M0,L0⟩:=mem_ext R.mem (total sp ops.toList);have hnid:∀dd∈decs sp [] 0 s.heap.length ops.toList,b.n≤dd.nid:=fun dd _=>by rw[hb];exact Nat.zero_le _
 let Q1:Exit→Act→World→Prop:=fun e a' w'=>e= .normal∧a'.defers=a.defers∧∃X',X'.w=w'∧Mem b X'∧RelDs X' s1.tmps a'.tmps.toList∧X'.H=s1.heap
 have hw1:wpOps P ops Q1 ((List.range ops.size).take j) a X.w:=by
  refine runD_wp (X:=⟨X.ρ,X.H++List.replicate (total sp ops.toList) .free,X.S,X.w⟩) ((decs sp [] 0 s.heap.length ops.toList).take j) _ M0 (L0.ds R.tmps) (by show X.H++_=_;rw[R.heap]) (fun dd h=>hnid dd (List.mem_of_mem_take h)) h1 hps ?_ (fun X' a' M' hT' hH' hd' _=>⟨rfl,hd',X',rfl,M',hT',hH'⟩);have:=hidx 0 j;rwa [List.drop_zero,List.drop_zero] at this
 have hsplit:List.range ops.size=(List.range ops.size).take j++(j::(List.range ops.size).drop (j+1)):=by
  have:(List.range ops.size).drop j=j::(List.range ops.size).drop (j+1):=by
   rw[List.drop_eq_getElem_cons (by simpa using hlt)];simp
  rw[←this,List.take_append_drop]
 obtain⟨a1,w1,⟨_,hd1,X1,rfl,M1,hT1,hH1⟩,hs1⟩:=ops_part hnd (fun e a w h=>h.1) (j::(List.range ops.size).drop (j+1)) _ a X.w hw1 fr k cs;rw[←hsplit] at hs1;have hG1:=grew_of M1 hb;have hJ1:J i U X1.w:=hJg _ _ _ _ hG1 hJ;obtain⟨ff,tm,asg,bd,hy,hrun⟩:=hY i x U X1.w hx hJ1;have hwant:Region.wanted o (yielded ops a1.tmps)=true:=by unfold Region.wanted;rw[hgd]
 have hg:=stepGR_op (P:=P) (b:=fr) (a:=a1) (k:=k) (cs:=cs) (w:=X1.w) (rest:=(List.range ops.size).drop (j+1)) ho hwant;rw[Oper.semAt_eq _ _ _ (not_defer hnd ho)] at hg;have hfv:=evalD_rel M1 hT1 f;rw[hf] at hfv;simp only[RelD] at hfv;have hav:=relDs_map_eval M1 hT1 c.args.toList hargs;have hex:(execOp a1.eval o).run P X1.w= .ok (.round l ff tm asg bd) X1.w:=by
  simp only[execOp,hop,resolve,hcal,hfv,Deferred.ofValue];rw[Sem.run_bind];simp only[Sem.run_pure,invoke,Result.andThen];have:c.args.map a1.eval=x.toArray:=by
   apply Array.ext';simpa using hav
  rw[this];simpa using hy
 have hstep:step P (lone (fr.atR a1 (.inRegion ops (j::(List.range ops.size).drop (j+1))::k)) cs X1.w)= .next (lone (Frame.round l ff tm asg bd .normal) (fr.atR a1 (.inRegion ops (j::(List.range ops.size).drop (j+1))::k)::cs) X1.w):=
  step_lone_go (by rw[hg];simp[stepG.apply,hex])
 obtain⟨t,w2,⟨hkept,hR⟩,hs2⟩:=hrun (fr.atR a1 (.inRegion ops (j::(List.range ops.size).drop (j+1))::k)) cs;have hfin:(fr.atR a1 (.inRegion ops (j::(List.range ops.size).drop (j+1))::k)).finish (.bool t)=fr.atR (a1.put o.dst (.bool t)) (.inRegion ops ((List.range ops.size).drop (j+1))::k):=by
  rw[Frame.finish_atR,ho];rfl
 rw[hfin] at hs2;obtain⟨M2,L2,hSU2⟩:=mem_anew M1 hb (by rw[hH1];exact hno) (fun k hk=>hJU i U b.w hJ k hk) (fun k h=>(hSU k h).2) hkept;have hT2:RelDs ⟨X1.ρ,X1.H,X1.S,w2⟩ (s1.tmps.set d (.v (.bool t))) (a1.put o.dst (.bool t)).tmps.toList:=by
  rw[hdst];exact putD_rel (L2.ds hT1) (some d) (by simp only[RelD])
 let Q2:Exit→Act→World→Prop:=fun e a' w'=>e= .normal∧a'.defers=(a1.put o.dst (.bool t)).defers∧∃X',X'.w=w'∧Mem ⟨w2,X1.ρ,X1.S,0⟩ X'∧RelDs X' (s2 t).tmps a'.tmps.toList∧X'.H=(s2 t).heap
 have hw2:wpOps P ops Q2 ((List.range ops.size).drop (j+1)) (a1.put o.dst (.bool t)) w2:=by
  refine runD_wp (X:=⟨X1.ρ,X1.H,X1.S,w2⟩) ((decs sp [] 0 s.heap.length ops.toList).drop (j+1)) _ (s:=⟨s1.tmps.set d (.v (.bool t)),s1.heap⟩) M2 hT2 hH1 (fun dd _=>Nat.zero_le _) (h2 t) (hqs t) ?_ (fun X' a' M' hT' hH' hd' _=>⟨rfl,hd',X',rfl,M',hT',hH'⟩);have:=hidx (j+1) (ops.size-(j+1));rwa [List.take_of_length_le (by simp),List.take_of_length_le (by simp[hdl])] at this
 obtain⟨a3,w3,⟨_,hd3,X3,rfl,M3,hT3,hH3⟩,hs3⟩:=ops_steps hnd (fun e a w h=>h.1) _ _ _ hw2 fr k cs;have hd3':a3.defers=[]:=by rw[hd3,put_defers,hd1];exact hd rfl
 have hstab:∀k,X1.S k→k<w2.heap.size:=fun k h=>M2.stab k h;have R3:Rel ⟨w2,X1.ρ,X1.S,0⟩ X3 (s2 t) a3:=⟨M3,hT3,hH3,Nat.zero_le _,hstab,[],by rw[hd3'];rfl,List.nodup_nil,fun D h=>by simp at h⟩;have hall:=Steps.trans (Steps.trans (Steps.head (stepR_region (id:=id)) hs1) (Steps.head hstep hs2)) hs3;cases t with
 |true=>
  obtain⟨U',hJ',hU'⟩:=hR;obtain⟨w',a',todo,h3,h4⟩:=hgo _ X3 a3 fr cs hr rfl (fun _=>hd3') R3 U' hJ' (fun k h=>⟨hstab k h,fun hu=>by
   rcases hU' k hu with h5|h5
   ·exact(hSU2 k h).2 h5
   ·have:=(hSU2 k h).1;omega⟩)
  exact⟨w',a',todo,Steps.trans hall h3,h4⟩
 |false=>
  obtain⟨w',a',todo,h3,h4,h5⟩:=hstop _ X3 a3 fr cs hr rfl (fun _=>hd3') R3 hR;exact⟨w',a',todo,Steps.trans hall h3,h4,.inr h5⟩
end
theorem iter_of {P:Program} {g:FuncId} {fn:Func} {c:Code} {caps:List D} {xs:List (List Value)} (hf:P.funcs[g]? =some fn) (hname:(fn.name== "runtime.NumGoroutine")=false) (hb:fn.body=some c) (hres:fn.results= #[])
  (h:∀(l:Nat) (J:Nat→(Nat→Prop)→World→Prop) (Jx:World→Prop),(∀i U w,J i U w→∀k,U k→k<w.heap.size)→(∀i U w w',Grew w w'→J i U w→J i U w')→(∀w w',Grew w w'→Jx w→Jx w')→
   (∀i x U w,xs[i]? =some x→J i U w→Yields P l x w fun c w'=>Kept U w w'∧if c then∃U',J (i+1) U' w'∧∀k,U' k→U k∨w.heap.size≤k else Jx w')→
   Goes P (itGoal P J Jx xs.length 0) 0 [.code c] (st0 fn.ntmps [] (.v (.func (.yield l) #[] #[])::caps))):IterP P g caps xs:=by
 refine⟨⟨fn,hf,hname,by rw[hb];rfl⟩,?_⟩;intro l lb S J Jx h1 h2 h3 h4 U w hJ hS hG hcaps cs;have M:Mem ⟨w,fun _=>none,S,0⟩ (bareX S w):=by
  refine⟨rfl,rfl,rfl,Nat.le_refl _,?_,?_,?_,fun k hk=>(hS k hk).1,fun _ _ _=>rfl,?_,fun _ _ _=>rfl,fun _ h=>h,fun _ h=> .inl h,hG,fun id r p h=>by cases h⟩
  ·intro i j p q hi;exact absurd rfl hi
  ·intro id r h;cases h
  ·intro id p h;exact absurd rfl h
  ·intro id p h;exact absurd rfl h
 have hlen:=relDs_length hcaps;have eargs:(#[.func (.yield l) #[] #[]]++lb.toArray:Array Value)=(Value.func (.yield l) #[] #[]::lb).toArray:=by
  apply Array.ext';simp
 rw[eargs];let a0:Act:={tmps:=(Value.func (.yield l) #[] #[]::lb).toArray++Array.replicate (fn.ntmps-(Value.func (.yield l) #[] #[]::lb).toArray.size) undef,defers:=[]}
 have R:Rel ⟨w,fun _=>none,S,0⟩ (bareX S w) (st0 fn.ntmps [] (.v (.func (.yield l) #[] #[])::caps)) a0:=by
  refine⟨M,?_,rfl,Nat.zero_le _,fun k hk=>(hS k hk).1,[],rfl,List.nodup_nil,fun D h=>by simp at h⟩;simp only[st0,a0,Array.toList_append,Array.toList_replicate,List.size_toArray,List.length_cons,hlen];rw[relDs_append];refine⟨_,_,rfl,?_,relDs_undef _ _⟩;simp only[RelDs,RelD];exact⟨_,_,rfl,rfl,hcaps⟩
 let b0:Frame:={(default:Frame) with fn:=g,kind:= .normal,roundOf:=none}
 have henter:Frame.enter P g (Value.func (.yield l) #[] #[]::lb).toArray .normal=b0.atR a0 [.code c]:=by
  simp[Frame.enter,Frame.atR,hf,hb,b0,a0]
 obtain⟨w',a',todo,h5,h6,h7⟩:=h l J Jx h1 h2 h3 h4 _ _ a0 b0 cs rfl rfl (fun _=>rfl) R U hJ hS;rw[←henter] at h5;refine⟨.returned (.tuple #[]),w',_,⟨⟨_,rfl⟩,h7⟩,h5,rfl,rfl,h6,rfl,fn,hf,?_⟩;have e0:fn.results.toList=[]:=by rw[hres]
 refine(results_run (fn:=fn) (vs:=[]) ?_).trans rfl;rw[e0];rfl
theorem goes_vc {P:Program} {T:Goal P} {n:Nat} {K:Nat→List Item} {k:List Item} {s:St} (sp:Sp) (keep:Nat→List Nat) (co:Nat→List Co) (f:Nat) (h:Hint) {V:(Nat→St→Prop)→(Option Code→St→Prop)→Prop} {E:Option Code→St→Prop} (hm:P.follows .mixedOrders=true)
  (h0:∀s,E none s→Goes P T n [] s) (h1:∀k s,E (some .ret) s→Goes P T n (.code .ret::k) s) (h2:∀id k s,exitTo id k=none→E (some (.exit id)) s→Goes P T n (.code (.exit id)::k) s)
  (hv:∀G E,vcX P sp n K keep co E G f k h s=V G E) (hV:V (fun i s=>Goes P T n (K i) s) E):Goes P T n k s:=by
 rw[←hv] at hV;exact vcX_sound hm (fun _ _ h=>h) h0 h1 h2 f k h s hV
def itE (i N:Nat) (j:Option Code) (_:St):Prop:=match j with
 |some (.exit _)=>False
 |_=>i=N
def stopE (j:Option Code) (_:St):Prop:=match j with
 |some (.exit _)=>False
 |_=>True
theorem it_vc {P:Program} {J:Nat→(Nat→Prop)→World→Prop} {Jx:World→Prop} {N i:Nat} {K:Nat→List Item} {k:List Item} {s:St} (sp:Sp) (keep:Nat→List Nat) (co:Nat→List Co) (f:Nat) (h:Hint) {V:(Nat→St→Prop)→(Option Code→St→Prop)→Prop} (hm:P.follows .mixedOrders=true)
  (hJg:∀i U w w',Grew w w'→J i U w→J i U w')
  (hv:∀G E,vcX P sp 0 K keep co E G f k h s=V G E) (hV:V (fun i' s=>Goes P (itGoal P J Jx N i) 0 (K i') s) (itE i N)):Goes P (itGoal P J Jx N i) 0 k s:=
 goes_vc sp keep co f h hm (fun s h=>by have h:i=N:=h;subst h;exact it_end hJg (.inl rfl)) (fun k s h=>by have h:i=N:=h;subst h;exact it_end hJg (.inr ⟨k,rfl⟩)) (fun id k s _ h=>h.elim) hv hV
def regO:List Item→Array Oper
 | .code (.region _ o _)::_=>o
 |_=> #[]
def vcY (P:Program) (sp:Sp) (ops:Array Oper) (j l:Nat) (x:List Value) (s:St) (K2:Bool→St→Prop):Prop:=
 if noDefer ops∧j<ops.size then
  match runD P ops ((decs sp [] 0 s.heap.length ops.toList).take j) ⟨s.tmps,s.heap++List.replicate (total sp ops.toList) .free⟩ with
  |some (s1,ps)=>andL ps (match ops[j]? with
   |some o=>match o.op,o.dst,o.guard with
    | .call c,some d,none=>match c.callee with
     | .value f=>if noRow s1.heap then
        evalD s1.tmps f= .v (.func (.yield l) #[] #[])∧c.args.toList.map (evalD s1.tmps)=x.map .v∧
        (match runD P ops ((decs sp [] 0 s.heap.length ops.toList).drop (j+1)) ⟨s1.tmps.set d (.v (.bool true)),s1.heap⟩ with
         |some (s2,qs)=>andL qs (K2 true s2)
         |none=>Stuck 4001)∧
        (match runD P ops ((decs sp [] 0 s.heap.length ops.toList).drop (j+1)) ⟨s1.tmps.set d (.v (.bool false)),s1.heap⟩ with
         |some (s2,qs)=>andL qs (K2 false s2)
         |none=>Stuck 4002)
       else Stuck 4003
     |_=>Stuck 4005
    |_,_,_=>Stuck 4006
   |none=>Stuck 4007)
  |none=>Stuck 4008
 else Stuck 4009
def Gives (P:Program) (l:Nat) (J:Nat→(Nat→Prop)→World→Prop) (Jx:World→Prop) (xs:List (List Value)):Prop:=
 ∀i x U w,xs[i]? =some x→J i U w→Yields P l x w fun c w'=>Kept U w w'∧if c then∃U',J (i+1) U' w'∧∀k,U' k→U k∨w.heap.size≤k else Jx w'
theorem it_round {P:Program} {J:Nat→(Nat→Prop)→World→Prop} {Jx:World→Prop} {N:Nat} {s:St} {k:List Item} {l i j:Nat} {x:List Value} {xs:List (List Value)} {sp:Sp} {K2:Bool→St→Prop}
  (hJU:∀i U w,J i U w→∀k,U k→k<w.heap.size) (hJg:∀i U w w',Grew w w'→J i U w→J i U w') (hY:Gives P l J Jx xs) (hx:xs[i]? =some x)
  {id:Nat} {ops:Array Oper} (hv:vcY P sp ops j l x s K2) (hgo:∀s2,K2 true s2→Goes P (itGoal P J Jx N (i+1)) 0 k s2) (hstop:∀s2,K2 false s2→Goes P (itStop P Jx) 0 k s2):Goes P (itGoal P J Jx N i) 0 (.code (.region id ops false)::k) s:=by
 unfold vcY at hv;split at hv
 case isFalse=>exact hv.elim
 rename_i hnd;split at hv
 ·rename_i s1 ps h1;obtain⟨hps,hv⟩:=andL_iff hv;split at hv
  ·rename_i o ho;split at hv
   ·rename_i c d hop hdst hgd;split at hv
    ·rename_i f hcal;split at hv
     ·rename_i hno;obtain⟨hf,hargs,ht,hfl⟩:=hv;split at ht
      ·rename_i s2 qs h2;obtain⟨hq2,hk2⟩:=andL_iff ht;split at hfl
       ·rename_i s3 rs h3;obtain⟨hq3,hk3⟩:=andL_iff hfl;refine it_yield (s2:=fun t=>if t then s2 else s3) (qs:=fun t=>if t then qs else rs) hJU hJg hY hnd.1 hnd.2 h1 hps ho hop hcal hdst hgd hf hargs hx hno ?_ ?_ (hgo s2 hk2) (hstop s3 hk3)
        ·intro t;cases t with
         |true=>exact h2
         |false=>exact h3
        ·intro t;cases t with
         |true=>exact hq2
         |false=>exact hq3
       ·exact hfl.elim
      ·exact ht.elim
     ·exact hv.elim
    ·exact hv.elim
   ·exact hv.elim
  ·exact hv.elim
 ·exact hv.elim
theorem it_round_vc {P:Program} {J:Nat→(Nat→Prop)→World→Prop} {Jx:World→Prop} {N:Nat} {s:St} {c:Code} {l i r:Nat} {x:List Value} {xs:List (List Value)} (sp:Sp) (keep:Nat→List Nat) (co:Nat→List Co) (f j:Nat) (h1 h2:Hint)
  {V:(Nat→St→Prop)→(Option Code→St→Prop)→(Nat→St→Prop)→(Option Code→St→Prop)→Prop} (hm:P.follows .mixedOrders=true)
  (hJU:∀i U w,J i U w→∀k,U k→k<w.heap.size) (hJg:∀i U w w',Grew w w'→J i U w→J i U w') (hJxg:∀w w',Grew w w'→Jx w→Jx w') (hY:Gives P l J Jx xs) (hx:xs[i]? =some x)
  (hr:∃id,RR c r= .code (.region id (regO (RR c r)) false)::(RR c r).tail)
  (hv:∀G E G' E',vcY P sp (regO (RR c r)) j l x s (fun t s2=>if t then vcX P sp 0 (KX c) keep co E G f (RR c r).tail h1 s2 else vcX P sp 0 (KX c) keep co E' G' f (RR c r).tail h2 s2)=V G E G' E')
  (hV:V (fun i' s=>Goes P (itGoal P J Jx N (i+1)) 0 (KX c i') s) (itE (i+1) N) (fun i' s=>Goes P (itStop P Jx) 0 (KX c i') s) stopE):Goes P (itGoal P J Jx N i) 0 (RR c r) s:=by
 rw[←hv] at hV;obtain⟨id,hr⟩:=hr;rw[hr];refine it_round hJU hJg hY hx hV (fun s2 h=> ?_) (fun s2 h=> ?_)
 ·exact vcX_sound hm (fun _ _ h=>h) (fun s h=>by have h:i+1=N:=h;subst h;exact it_end hJg (.inl rfl)) (fun k s h=>by have h:i+1=N:=h;subst h;exact it_end hJg (.inr ⟨k,rfl⟩)) (fun id k s _ h=>h.elim) f _ h1 s2 h
 ·exact vcX_sound hm (fun _ _ h=>h) (fun s h=>it_stop hJxg (.inl rfl)) (fun k s h=>it_stop hJxg (.inr ⟨k,rfl⟩)) (fun id k s _ h=>h.elim) f _ h2 s2 h
abbrev W64:Nat:=18446744073709551616
theorem wrU {n:Int} (h0:0≤n) (h1:n<18446744073709551616):IntKind.u64.wrap n=n:=by
 have:IntKind.u64.wrap n=n%18446744073709551616:=by
  unfold IntKind.wrap;simp[IntKind.bits,IntKind.signed]
 rw[this];omega
theorem andU {a b:Nat} (ha:a<W64) (hb:b<W64):(BitVec.ofInt 64 (a:Int)&&&BitVec.ofInt 64 (b:Int)).toNat=a&&&b:=by
 rw[BitVec.ofInt_natCast,BitVec.ofInt_natCast,BitVec.toNat_and,BitVec.toNat_ofNat,BitVec.toNat_ofNat,Nat.mod_eq_of_lt ha,Nat.mod_eq_of_lt hb]
theorem orU {a b:Nat} (ha:a<W64) (hb:b<W64):(BitVec.ofInt 64 (a:Int)|||BitVec.ofInt 64 (b:Int)).toNat=a|||b:=by
 rw[BitVec.ofInt_natCast,BitVec.ofInt_natCast,BitVec.toNat_or,BitVec.toNat_ofNat,BitVec.toNat_ofNat,Nat.mod_eq_of_lt ha,Nat.mod_eq_of_lt hb]
theorem and_lt {a b:Nat} (ha:a<W64):a&&&b<W64:=Nat.lt_of_le_of_lt Nat.and_le_left ha
theorem or_lt {a b:Nat} (ha:a<W64) (hb:b<W64):a|||b<W64:=Nat.or_lt_two_pow (n:=64) ha hb
def lstF:Nat→Nat→Nat→List Int
 |0,_,_=> []
 |f+1,i,m=>(if m.testBit i then [(i:Int)] else [])++lstF f (i+1) m
def listN (m:Nat):List Int:=lstF 64 0 m
def hasN (m:Nat) (i:Int):Bool:=decide (0≤i)&&(decide (i<64)&&m.testBit i.toNat)
def ofA:Nat→List Int→Nat
 |acc,[]=>acc
 |acc,x::xs=>ofA (if 0≤x∧x<64 then acc|||2^x.toNat else acc) xs
def ofN (l:List Int):Nat:=ofA 0 l
def bitN (i:Int):Nat:=if i<0∨63<i then 0 else 2^i.toNat
theorem min_bit:∀(m:Nat),m≠0→∃t,m.testBit t=true∧∀i,i<t→m.testBit i=false
 |m,h=>by
  by_cases h1:m%2=1
  ·exact⟨0,by rw[Nat.testBit_zero];simpa using h1,fun i hi=>by omega⟩
  ·have h2:m/2≠0:=by omega
   obtain⟨t,ht,hl⟩:=min_bit (m/2) h2;refine⟨t+1,by rw[Nat.testBit_succ];exact ht,fun i hi=> ?_⟩;cases i with
   |zero=>rw[Nat.testBit_zero];simpa using h1
   |succ i=>rw[Nat.testBit_succ];exact hl i (by omega)
termination_by m=>m
decreasing_by omega
theorem low_split {m t:Nat} (ht:m.testBit t=true) (hl:∀i,i<t→m.testBit i=false):∃q,m=2^(t+1)*q+2^t:=by
 have h0:m%2^t=0:=by
  apply Nat.eq_of_testBit_eq;intro i;rw[Nat.testBit_mod_two_pow,Nat.zero_testBit];by_cases hi:i<t
  ·rw[hl i hi];simp
  ·simp[hi]
 have h1:m/2^t%2=1:=by
  rw[Nat.testBit_eq_decide_div_mod_eq] at ht;exact of_decide_eq_true ht
 refine⟨m/2^t/2,?_⟩;have h2:=Nat.div_add_mod m (2^t);have h3:=Nat.div_add_mod (m/2^t) 2;rw[h1] at h3;rw[h0,Nat.add_zero] at h2;have e:m/2^t=2*(m/2^t/2)+1:=by omega
 calc m=2^t*(m/2^t):=h2.symm
  _=2^t*(2*(m/2^t/2)+1):=by rw[←e]
  _=2^(t+1)*(m/2^t/2)+2^t:=by rw[Nat.mul_add,Nat.pow_succ,Nat.mul_assoc,Nat.mul_one]
theorem pred_bits {m t:Nat} (ht:m.testBit t=true) (hl:∀i,i<t→m.testBit i=false) (i:Nat):(m-1).testBit i=if i<t then true else if i=t then false else m.testBit i:=by
 obtain⟨q,hq⟩:=low_split ht hl;have hp:0<2^t:=Nat.two_pow_pos t;have hp2:2^(t+1)=2*2^t:=by rw[Nat.pow_succ];omega
 have e1:m-1=2^(t+1)*q+(2^t-1):=by omega
 rw[e1,Nat.testBit_two_pow_mul_add q (by omega)];by_cases h1:i<t+1
 ·rw[if_pos h1,Nat.testBit_two_pow_sub_one];by_cases h2:i<t
  ·rw[if_pos h2];simpa using h2
  ·rw[if_neg h2,if_pos (by omega)];simpa using h2
 ·rw[if_neg h1,if_neg (by omega),if_neg (by omega),hq,Nat.testBit_two_pow_mul_add q (by omega),if_neg h1]
theorem and_pred {m t:Nat} (ht:m.testBit t=true) (hl:∀i,i<t→m.testBit i=false) (i:Nat):(m&&&(m-1)).testBit i=(m.testBit i&&decide (i≠t)):=by
 rw[Nat.testBit_and,pred_bits ht hl];by_cases h1:i<t
 ·rw[if_pos h1,hl i h1];rfl
 ·rw[if_neg h1];by_cases h2:i=t
  ·rw[if_pos h2];simp[h2]
  ·rw[if_neg h2];simp[h2]
theorem and_neg {m t:Nat} (h0:m<W64) (ht:m.testBit t=true) (hl:∀i,i<t→m.testBit i=false):t<64∧m&&&(W64-m)=2^t:=by
 have hlt:t<64:=by
  rcases Nat.lt_or_ge t 64 with h|h
  ·exact h
  ·have:m<2^t:=Nat.lt_of_lt_of_le (show m<2^64 from h0) (Nat.pow_le_pow_right (by omega) h);rw[Nat.testBit_lt_two_pow this] at ht;cases ht
 have hm:m≠0:=by rintro rfl;simp at ht
 refine⟨hlt,?_⟩;apply Nat.eq_of_testBit_eq;intro i;have e:W64-m=2^64-((m-1)+1):=by show 2^64-m=_;omega
 rw[Nat.testBit_and,e,Nat.testBit_two_pow_sub_succ (show m-1<2^64 by have:m<2^64:=h0;omega),pred_bits ht hl,Nat.testBit_two_pow];by_cases h1:i<t
 ·rw[hl i h1];simp;omega
 ·rw[if_neg h1];by_cases h2:i=t
  ·subst h2;simp[ht,hlt]
  ·rw[if_neg h2];cases m.testBit i<;>simp<;>omega
theorem lst_same {m m':Nat}:∀(f i:Nat),(∀j,i≤j→j<i+f→m.testBit j=m'.testBit j)→lstF f i m=lstF f i m'
 |0,_,_=>rfl
 |f+1,i,h=>by
  simp only[lstF];rw[h i (by omega) (by omega),lst_same f (i+1) (fun j a b=>h j (by omega) (by omega))]
theorem lst_none {m:Nat}:∀(f i:Nat),(∀j,i≤j→j<i+f→m.testBit j=false)→lstF f i m=[]
 |0,_,_=>rfl
 |f+1,i,h=>by
  simp only[lstF];rw[h i (by omega) (by omega),lst_none f (i+1) (fun j a b=>h j (by omega) (by omega))];rfl
theorem lst_add (m:Nat):∀(a b i:Nat),lstF (a+b) i m=lstF a i m++lstF b (i+a) m
 |0,b,i=>by simp[lstF]
 |a+1,b,i=>by
  rw[show a+1+b=(a+b)+1 by omega];simp only[lstF];rw[lst_add m a b (i+1),List.append_assoc,show i+1+a=i+(a+1) by omega]
theorem list_step {m:Nat} (h:m≠0) (h0:m<W64):∃t:Nat,t<64∧m&&&(W64-m)=2^t∧listN m=(t:Int)::listN (m&&&(m-1)):=by
 obtain⟨t,ht,hl⟩:=min_bit m h;obtain⟨hlt,hneg⟩:=and_neg h0 ht hl;refine⟨t,hlt,hneg,?_⟩;have key:∀x,listN x=lstF t 0 x++(lstF 1 t x++lstF (63-t) (t+1) x):=by
  intro x;unfold listN;rw[show 64=t+(1+(63-t)) by omega,lst_add,lst_add];simp only[Nat.zero_add]
 rw[key m,key (m&&&(m-1)),lst_none t 0 (fun j _ hj=>hl j (by omega)),lst_none t 0 (fun j _ hj=>by rw[and_pred ht hl,hl j (by omega)];rfl)];simp only[lstF,List.nil_append,List.append_nil];have hs:lstF (63-t) (t+1) m=lstF (63-t) (t+1) (m&&&(m-1)):=lst_same _ _ (fun j hj _=>by
  rw[and_pred ht hl];have:j≠t:=by omega
  simp[this])
 rw[ht,and_pred ht hl,hs];simp
theorem list_zero:listN 0=[]:=by decide
theorem lst_len (m:Nat):∀f i,(lstF f i m).length≤f
 |0,_=>by simp[lstF]
 |f+1,i=>by
  have:=lst_len m f (i+1);simp only[lstF,List.length_append];split<;>simp only[List.length_cons,List.length_nil]<;>omega
theorem list_len (m:Nat):(listN m).length≤64:=lst_len m 64 0
theorem mem_lst {m:Nat} {x:Int}:∀{f i:Nat},x∈lstF f i m↔(i:Int)≤x∧x< (i+f:Nat)∧m.testBit x.toNat=true
 |0,i=>by
  simp only[lstF,List.not_mem_nil,false_iff];omega
 |f+1,i=>by
  simp only[lstF,List.mem_append,mem_lst (f:=f)];constructor
  ·rintro(h|h)
   ·split at h
    ·rename_i hb;rw[List.mem_singleton.1 h];exact⟨by omega,by omega,hb⟩
    ·simp at h
   ·exact⟨by omega,by omega,h.2.2⟩
  ·rintro⟨h1,h2,h3⟩
   by_cases e:x=i
   ·subst e;rw[Int.toNat_natCast] at h3;rw[h3];exact .inl (by simp)
   ·exact .inr ⟨by omega,by omega,h3⟩
theorem mem_list {m:Nat} {x:Int}:x∈listN m↔hasN m x=true:=by
 unfold listN hasN;rw[mem_lst];simp only[Bool.and_eq_true,decide_eq_true_eq];constructor
 ·rintro⟨a,b,c⟩
  exact⟨by omega,by omega,c⟩
 ·rintro⟨a,b,c⟩
  exact⟨by omega,by omega,c⟩
theorem of_bits:∀(l:List Int) (acc:Nat) (j:Nat),(ofA acc l).testBit j=(acc.testBit j||(decide (j<64)&&decide ((j:Int)∈l)))
 | [],acc,j=>by simp[ofA]
 |x::xs,acc,j=>by
  simp only[ofA];rw[of_bits xs];split
  ·rename_i h;rw[Nat.testBit_or,Nat.testBit_two_pow];by_cases e:x.toNat=j
   ·have e2:(j:Int)=x:=by omega
    have:j<64:=by omega
    simp[e,e2,this]
   ·have e2:¬(j:Int)=x:=by omega
    simp[e,e2]
  ·rename_i h;by_cases hj:j<64
   ·have e2:¬(j:Int)=x:=by omega
    simp[hj,e2]
   ·simp[hj]
theorem of_lt:∀(l:List Int) (acc:Nat),acc<W64→ofA acc l<W64
 | [],acc,h=>h
 |x::xs,acc,h=>by
  simp only[ofA];refine of_lt xs _ ?_;split
  ·rename_i hx;exact or_lt h (show 2^x.toNat<2^64 from Nat.pow_lt_pow_right (by omega) (by omega))
  ·exact h
theorem add_or {a i:Nat} (h:a.testBit i=false):a+2^i=a|||2^i:=by
 have h1:a/2^i%2=0:=by
  rw[Nat.testBit_eq_decide_div_mod_eq] at h;have:=of_decide_eq_false h;omega
 have hp:0<2^i:=Nat.two_pow_pos i;have hr:a%2^i<2^i:=Nat.mod_lt _ hp;have hp2:2^(i+1)=2^i*2:=Nat.pow_succ 2 i;have ea:a=2^(i+1)*(a/2^i/2)+a%2^i:=by
  have h2:=Nat.div_add_mod a (2^i);have h3:=Nat.div_add_mod (a/2^i) 2;rw[h1,Nat.add_zero] at h3;rw[hp2,Nat.mul_assoc,h3,h2]
 apply Nat.eq_of_testBit_eq;intro j;have el:a+2^i=2^(i+1)*(a/2^i/2)+(2^i*1+a%2^i):=by omega
 rw[el,Nat.testBit_two_pow_mul_add _ (by omega),Nat.testBit_or,Nat.testBit_two_pow];conv=>rhs;rw[ea]
 rw[Nat.testBit_two_pow_mul_add _ hr,Nat.testBit_two_pow_mul_add _ (show a%2^i<2^(i+1) by omega)];by_cases h1:j<i+1
 ·rw[if_pos h1,if_pos h1];by_cases h2:j<i
  ·rw[if_pos h2];have:¬i=j:=by omega
   simp[this]
  ·have:i=j:=by omega
   subst this;rw[if_neg h2];simp
 ·rw[if_neg h1,if_neg h1];have:¬i=j:=by omega
  simp[this]
theorem has_div {m:Nat} {i:Int} (h0:0≤i) (h1:i≤63):hasN m i=decide ((m:Int)/((2^i.toNat:Nat):Int)%2=1):=by
 unfold hasN;rw[decide_eq_true h0,decide_eq_true (show i<64 by omega),Nat.testBit_eq_decide_div_mod_eq];simp only[Bool.true_and];apply Bool.eq_iff_iff.2;simp only[decide_eq_true_eq];rw[←Int.natCast_ediv];omega
def u64 (m:Nat):D:= .v (.int .u64 (m:Int))
def spNm:Sp:=fun f args rd=>match f,args with
 |33,[.v (.int _ m),.v (.int _ i)]=>some {f:=33,args:=[.v (.int .u64 m),.v (.int .i64 i)],val:= .v (.bool (hasN m.toNat i))}
 |26,[.v (.int _ m),.v (.int _ i)]=>some {f:=26,args:=[.v (.int .u64 m),.v (.int .i64 i)],val:= .v (.bool (hasN m.toNat i))}
 |30,[l]=>match slC rd (.int .i64) [l] with
  |some L=>some {f:=30,args:=[.sl false false (.int .i64) L],val:= .v (.int .u64 (ofN L:Nat)),lent:=refsDs [l]}
  |none=>none
 |24,[l]=>match slC rd (.int .i64) [l] with
  |some L=>some {f:=24,args:=[.sl false false (.int .i64) L],val:= .v (.int .u64 (ofN L:Nat)),lent:=refsDs [l]}
  |none=>none
 |74,[.v (.int _ i)]=>some {f:=74,args:=[.v (.int .i64 i)],val:= .v (.int .u64 (bitN i:Nat))}
 |124,[.v (.int _ a),.v (.int _ c)]=>some {f:=124,args:=[.v (.int .u64 a),.v (.int .u64 c)],val:= .v (.int .u64 ((a.toNat&&&c.toNat:Nat):Int))}
 |f,args=>spSe f args rd
noncomputable def n130:=bd Tryd.f74
noncomputable def n111:=bd Tryd.f33
noncomputable def n117:=bd Tryd.f30
noncomputable def n66:=bd Tryd.f26
noncomputable def n67:=bd Tryd.f24
noncomputable def n127:=bd Tryd.f124
theorem wrU' {n:Nat} (h:n<W64):IntKind.u64.wrap (n:Int)=(n:Int):=wrU (by omega) (by have:n<18446744073709551616:=h;omega)
theorem two_cast (k:Nat):((2:Int)^k)=((2^k:Nat):Int):=by simp
theorem shl1 {i:Int} (h0:0≤i) (h1:i<64):IntKind.u64.wrap (1*2^(min i.toNat 64))=((2^i.toNat:Nat):Int):=by
 have hm:min i.toNat 64=i.toNat:=by omega
 have hlt:(2^i.toNat:Nat)<W64:=(Nat.pow_lt_pow_right (by omega) (by omega):2^i.toNat<2^64);rw[hm,Int.one_mul,two_cast];exact wrU' hlt
theorem shr1 (m:Nat) {i:Int} (h1:i<64):Int.fdiv (m:Int) (2^(min i.toNat 64))=((m/2^i.toNat:Nat):Int):=by
 have hm:min i.toNat 64=i.toNat:=by omega
 rw[hm,two_cast,Int.fdiv_eq_ediv_of_nonneg _ (Int.natCast_nonneg _)];exact(Int.natCast_ediv _ _).symm
theorem u64_mask {t:Nat} (h:t<64):(2^t:Nat)<W64:=(Nat.pow_lt_pow_right (by omega) h:2^t<2^64)
theorem has_and {m:Nat} {i:Int} (h0:0≤i) (h1:i<64):hasN m i=decide (m/2^i.toNat%2=1):=by
 unfold hasN;rw[decide_eq_true h0,decide_eq_true h1,Nat.testBit_eq_decide_div_mod_eq];rfl
def vq9 (i:Int) (k:Nat) (b:Nat) (G:GT) (R:RT):Prop:=(decide ((↑k:Int)<i)=true→sK n130 0∧G 0 (stOf 19 [0,3,4] [vi i,D.v (Value.int .u64 (IntKind.u64.wrap ((↑b:Int)*(2:Int)))),vi (IntKind.i64.wrap ((↑k:Int)+1))] []))∧(decide ((↑k:Int)<i)=false→R (D.v (Value.int .u64 (↑b:Int)),[],[]))
theorem e130 (i:Int) (i1:i<64) (n:Nat):∀(k b:Nat),(k:Int)+n=i→b=2^k→GetsK Tryd.prog Tryd.f74.results.toList [none] (KK n130) 0 (.v (.int .u64 ((2^i.toNat:Nat):Int)),[],[]) 0 (stOf 19 [0,3,4] [vi i,.v (.int .u64 (b:Int)),vi (k:Int)] []):=by
 induction n with
 |zero=>
  intro k b hk hb;have e:i.toNat=k:=by omega
  rw[e,←hb];refine gets_vc spNm (fun _=> [0,3,4]) (fun _=> []) 400 (.fork (.hd 0) .stop) (V:=vq9 i k b) hmG (fun G R=>by kernel_rfl) ?_;unfold vq9;try dsimp only
  simp (disch:=omega) only[oo,oop,oq,reduceCtorEq];repeat' first|with_reducible apply And.intro|intro _|rfl|omega|assumption|trivial|(exfalso;simp_all;done)
 |succ n ih=>
  intro k b hk hb;have hlt:2^(k+1)<W64:=u64_mask (by omega);have e:b*2=2^(k+1):=by rw[hb,Nat.pow_succ]
  rw[←e] at hlt;have hlt':b*2<18446744073709551616:=hlt;have hx:=ih (k+1) (b*2) (by omega) e;have hw:IntKind.u64.wrap ((b:Int)*2)=((b*2:Nat):Int):=by
   rw[wrU (by omega) (by omega)];simp
  have hk1:IntKind.i64.wrap ((k:Int)+1)=((k+1:Nat):Int):=by rw[wrG (by omega) (by omega)];simp
  refine gets_vc spNm (fun _=> [0,3,4]) (fun _=> []) 400 (.fork (.hd 0) .stop) (V:=vq9 i k b) hmG (fun G R=>by kernel_rfl) ?_;unfold vq9;try dsimp only
  rw[hw,hk1];simp (disch:=omega) only[oo,oop,oq,reduceCtorEq];repeat' first|with_reducible apply And.intro|intro _|rfl|omega|assumption|trivial|(exfalso;simp_all;done)
theorem d130 (i:Int):Con Tryd.prog 74 [] [vi i] ((.v (.int .u64 (bitN i:Nat)))) [] []:=by
 refine con_vc (how:=[none]) (c:=n130) (K:=(KK n130)) spNm (fun _=> [0,3,4]) (fun _=> []) 400 (.fork (.t .stop) (.fork .stop (.hd 0))) (V:=fun G R=>(decide (i< (0:Int))=true→true=true∧R (D.v (Value.int .u64 (0:Int)),[],[]))∧(decide (i< (0:Int))=false→(decide (i>(63:Int))=true→R (D.v (Value.int .u64 (0:Int)),[],[]))∧(decide (i>(63:Int))=false→sK n130 0∧G 0 (stOf 19 [0,3,4] [vi i,D.v (Value.int .u64 (1:Int)),vi 0] [])))) hmG Tryd.func74 (by kernel_rfl) (by kernel_rfl) (fun G R=>by kernel_rfl) ?_;try dsimp only
 unfold bitN;by_cases h:i<0∨63<i
 ·rw[if_pos h];simp (disch:=omega) only[oo,oop,oq,reduceCtorEq];repeat' first|with_reducible apply And.intro|intro _|rfl|omega|assumption|trivial|(exfalso;simp_all;done)
 ·rw[if_neg h];have hx:=e130 i (by omega) i.toNat 0 1 (by omega) rfl;simp (disch:=omega) only[oo,oop,oq,reduceCtorEq];repeat' first|with_reducible apply And.intro|intro _|rfl|omega|assumption|trivial|exact hx|(exfalso;simp_all;done)
theorem d111 (m:Nat) (i:Int) (hm:m<W64):Con Tryd.prog 33 [] [u64 m,vi i] ((vb (hasN m i))) [] []:=by
 have c:=d130 i;have hm':m<18446744073709551616:=hm;have wq:IntKind.u64.wrap ((m:Int).tdiv ((bitN i:Nat):Int))=(m:Int)/((bitN i:Nat):Int):=by
  rw[Int.tdiv_eq_ediv_of_nonneg (Int.natCast_nonneg _)];have h1:(m:Int)/((bitN i:Nat):Int)=((m/bitN i:Nat):Int):=(Int.natCast_ediv _ _).symm;have h2:m/bitN i≤m:=Nat.div_le_self _ _;rw[h1];exact wrU' (Nat.lt_of_le_of_lt h2 hm)
 have ht:((m:Int)/((2^i.toNat:Nat):Int)).tmod 2=(m:Int)/((2^i.toNat:Nat):Int)%2:=Int.tmod_eq_emod_of_nonneg (by rw[←Int.natCast_ediv];exact Int.natCast_nonneg _);refine con_vc (how:=[none]) (c:=n111) (K:=(KK n111)) spNm (fun _=> []) (fun _=> []) 400 (.fork (.t .stop) (.fork .stop .stop)) (V:=fun G R=>(decide (i< (0:Int))=true→true=true∧R (vb false,[],[]))∧(decide (i< (0:Int))=false→(decide (i>(63:Int))=true→R (vb false,[],[]))∧(decide (i>(63:Int))=false→cP 74 [] [vi i] (D.v (Value.int .u64 (↑(bitN i):Int))) [] []∧vE i i∧(↑(bitN i):Int)≠0∧(2:Int)≠0∧R (vb ((IntKind.u64.wrap ((↑m:Int).tdiv (↑(bitN i):Int))).tmod (2:Int)==1),[],[])))) hmG Tryd.func33 (by kernel_rfl) (by kernel_rfl) (fun G R=>by kernel_rfl) ?_;try dsimp only
 by_cases h:0≤i∧i≤63
 ·have hb:bitN i=2^i.toNat:=if_neg (by omega);rw[wq,hb,ht,has_div h.1 h.2];rw[hb] at c;have hp:0<2^i.toNat:=Nat.two_pow_pos _;have e:(((m:Int)/((2^i.toNat:Nat):Int)%2)==1)=decide ((m:Int)/((2^i.toNat:Nat):Int)%2=1):=by
   apply Bool.eq_iff_iff.2;simp
  rw[e];simp (disch:=omega) only[oo,oop,oq,reduceCtorEq];repeat' first|with_reducible apply And.intro|intro _|rfl|omega|assumption|trivial|(exfalso;simp_all;done)
 ·have e:hasN m i=false:=by
   unfold hasN;by_cases h1:0≤i
   ·rw[decide_eq_false (show ¬i<64 by omega)];simp
   ·rw[decide_eq_false h1];simp
  rw[e];simp (disch:=omega) only[oo,oop,oq,reduceCtorEq];repeat' first|with_reducible apply And.intro|intro _|rfl|omega|assumption|trivial|(exfalso;simp_all;done)
theorem d66 (m:Nat) (i:Int) (hm:m<W64):Con Tryd.prog 26 [] [u64 m,vi i] ((vb (hasN m i))) [] []:=by
 have ha:(BitVec.ofInt 64 ((m/2^i.toNat:Nat):Int)&&&BitVec.ofInt 64 1).toNat=(m/2^i.toNat)&&&1:=andU (a:=m/2^i.toNat) (b:=1) (Nat.lt_of_le_of_lt (Nat.div_le_self _ _) hm) (by decide);refine con_vc (how:=[none]) (c:=n66) (K:=(KK n66)) spNm (fun _=> []) (fun _=> []) 400 (.fork (.fork .stop .stop) (.f .stop)) (V:=fun G R=>(decide (i≥(0:Int))=true→(decide (i< (64:Int))=true→¬i< (0:Int)∧R (vb (IntKind.u64.wrap (↑(BitVec.ofInt 64 ((↑m:Int).fdiv ((2:Int)^min i.toNat 64))&&&BitVec.ofInt 64 (1:Int)).toNat:Int)==1),[],[]))∧(decide (i< (64:Int))=false→R (vb false,[],[])))∧(decide (i≥(0:Int))=false→false=false∧R (vb false,[],[]))) hmG Tryd.func26 (by kernel_rfl) (by kernel_rfl) (fun G R=>by kernel_rfl) ?_;try dsimp only
 by_cases h:0≤i∧i<64
 ·rw[shr1 m h.2,ha,has_and h.1 h.2,Nat.and_one_is_mod];have hlt:m/2^i.toNat%2<2:=Nat.mod_lt _ (by omega);have hw:IntKind.u64.wrap ((m/2^i.toNat%2:Nat):Int)=((m/2^i.toNat%2:Nat):Int):=wrU (by omega) (by omega);rw[hw];have e:(((m/2^i.toNat%2:Nat):Int)==1)=decide (m/2^i.toNat%2=1):=by
   apply Bool.eq_iff_iff.2;simp only[beq_iff_eq,decide_eq_true_eq];omega
  rw[e];simp (disch:=omega) only[oo,oop,oq,reduceCtorEq];repeat' first|with_reducible apply And.intro|intro _|rfl|omega|assumption|trivial|(exfalso;simp_all;done)
 ·have e:hasN m i=false:=by
   unfold hasN;by_cases h1:0≤i
   ·rw[decide_eq_false (show ¬i<64 by omega)];simp
   ·rw[decide_eq_false h1];simp
  rw[e];simp (disch:=omega) only[oo,oop,oq,reduceCtorEq];repeat' first|with_reducible apply And.intro|intro _|rfl|omega|assumption|trivial|(exfalso;simp_all;done)
theorem of_step (acc:Nat) (a:Int) (h0:0≤a) (h1:a<64) (hb:acc<W64):IntKind.u64.wrap ((BitVec.ofInt 64 (acc:Int)|||BitVec.ofInt 64 ((2^a.toNat:Nat):Int)).toNat:Int)=((acc|||2^a.toNat:Nat):Int):=by
 have hlt:=u64_mask (t:=a.toNat) (by omega);rw[orU hb hlt];exact wrU' (or_lt hb hlt)
def vq10 (L:List Int) (k:Int) (b:Nat) (G:GT) (R:RT):Prop:=let yy1:=(Value.int .i64 (IntKind.i64.wrap (k+1)));let yy2:=(Value.int .i64 (↑L.length:Int));(decide (k<L.length)=true→0≤k∧k<L.length∧(decide (L.getD k.toNat tI.dflt≥(0:Int))=true→(decide (L.getD k.toNat tI.dflt< (64:Int))=true→¬L.getD k.toNat tI.dflt< (0:Int)∧sK n67 0∧G 0 (stOf 24 [3,6,7,8] [D.v (Value.int .u64 (IntKind.u64.wrap (↑(BitVec.ofInt 64 (↑b:Int)|||BitVec.ofInt 64 (IntKind.u64.wrap ((1:Int)*(2:Int)^min (Int.toNat (L.getD k.toNat tI.dflt)) 64))).toNat:Int))),sL tI L,D.v yy2,D.v yy1] []))∧(decide (L.getD k.toNat tI.dflt< (64:Int))=false→sK n67 0∧G 0 (stOf 24 [3,6,7,8] [D.v (Value.int .u64 (↑b:Int)),sL tI L,D.v yy2,D.v yy1] [])))∧(decide (L.getD k.toNat tI.dflt≥(0:Int))=false→false=false∧sK n67 0∧G 0 (stOf 24 [3,6,7,8] [D.v (Value.int .u64 (↑b:Int)),sL tI L,D.v yy2,D.v yy1] [])))∧(decide (k<L.length)=false→R (D.v (Value.int .u64 (↑b:Int)),[],[]))
theorem e67 (L:List Int) (hL:(L.length:Int)≤9223372036854775807) (z:Nat):∀(k:Int) (b:Nat),0≤k→k+z=L.length→b<W64→∀r,r=ofA b (L.drop k.toNat)→GetsK Tryd.prog Tryd.f24.results.toList [none] (KK n67) 0 (.v (.int .u64 ((r:Nat):Int)),[],[]) 0 (stOf 24 [3,6,7,8] [.v (.int .u64 (b:Int)),slI L,vi L.length,vi k] []):=by
 induction z with
 |zero=>
  intro k b k0 hk hb r hr;rw[List.drop_eq_nil_of_le (by omega)] at hr;have hr:r=b:=hr;rw[hr];refine gets_vc spNm (fun _=> [3,6,7,8]) (fun _=> []) 400 (.fork (.fork (.fork (.hd 0) (.hd 0)) (.f (.hd 0))) .stop) (V:=vq10 L k b) hmG (fun G R=>by kernel_rfl) ?_;unfold vq10;try dsimp only
  simp (disch:=omega) only[oo,oop,oq,reduceCtorEq];repeat' first|with_reducible apply And.intro|intro _|rfl|omega|assumption|trivial|(exfalso;simp_all;done)
 |succ z ih=>
  intro k b k0 hk hb r hr;have hd:=drop_at (xs:=L) (i:=k) (0:Int) k0 (by omega);rw[hd] at hr;simp only[ofA] at hr;refine gets_vc spNm (fun _=> [3,6,7,8]) (fun _=> []) 400 (.fork (.fork (.fork (.hd 0) (.hd 0)) (.f (.hd 0))) .stop) (V:=vq10 L k b) hmG (fun G R=>by kernel_rfl) ?_;unfold vq10;try dsimp only
  simp only[Ty.dflt];clear hd
  obtain⟨a,ha⟩:∃a,L.getD k.toNat (0:Int)=a:=⟨_,rfl⟩;simp only[ha] at hr⊢;have hk1:IntKind.i64.wrap (k+1)=k+1:=wrG (by omega) (by omega);rw[hk1];by_cases h:0≤a∧a<64
  ·rw[if_pos h] at hr;have hx:=ih (k+1) (b|||2^a.toNat) (by omega) (by omega) (or_lt hb (u64_mask (by omega))) r hr;rw[shl1 h.1 h.2,of_step b a h.1 h.2 hb];simp (disch:=omega) only[oo,oop,oq,reduceCtorEq];repeat' first|with_reducible apply And.intro|intro _|rfl|omega|assumption|trivial|(exfalso;simp_all;done)
  ·rw[if_neg h] at hr;have hx:=ih (k+1) b (by omega) (by omega) hb r hr;simp (disch:=omega) only[oo,oop,oq,reduceCtorEq];repeat' first|with_reducible apply And.intro|intro _|rfl|omega|assumption|trivial|(exfalso;simp_all;done)
theorem d67 (L:List Int) (hL:(L.length:Int)≤9223372036854775807):Con Tryd.prog 24 [] [slI L] ((.v (.int .u64 (ofN L:Nat)))) [] []:=by
 refine con_vc (how:=[none]) (c:=n67) (K:=(KK n67)) spNm (fun _=> [3,6,7,8]) (fun _=> []) 400 (.hd 0) (V:=fun G R=>sK n67 0∧G 0 (stOf 24 [3,6,7,8] [D.v (Value.int .u64 (0:Int)),sL tI L,vi L.length,vi 0] [])) hmG Tryd.func24 (by kernel_rfl) (by kernel_rfl) (fun G R=>by kernel_rfl) ?_;try dsimp only
 have hx:=e67 L hL L.length 0 0 (by omega) (by omega) (by decide) (ofN L) rfl;simp (disch:=omega) only[oo,oop,oq,reduceCtorEq];repeat' first|with_reducible apply And.intro|intro _|rfl|omega|assumption|trivial|(exfalso;simp_all;done)
def vq11 (L:List Int) (k:Int) (b:Nat) (G:GT) (R:RT):Prop:=let yy0:=(L.getD k.toNat tI.dflt);let yy1:=(Value.int .i64 (IntKind.i64.wrap (k+1)));let yy2:=(Value.int .u64 (↑b:Int));let yy4:=(↑L.length:Int);(decide (k<yy4)=true→0≤k∧k<yy4∧(decide (L.getD k.toNat tI.dflt≥(0:Int))=true→0≤k∧k<yy4∧(decide (L.getD k.toNat tI.dflt≤(63:Int))=true→0≤k∧k<yy4∧cP 33 [] [D.v yy2,vi yy0] (vb (hasN (↑b:Int).toNat yy0)) [] []∧Value.int .u64 (↑b:Int)=Value.int .u64 (↑b:Int)∧vE yy0 yy0∧((!hasN (↑b:Int).toNat yy0)=true→0≤k∧k<yy4∧cP 74 [] [vi yy0] (D.v (Value.int .u64 (↑(bitN yy0):Int))) [] []∧vE yy0 yy0∧sK n117 0∧G 0 (stOf 40 [0,3,4] [sL tI L,D.v (Value.int .u64 (IntKind.u64.wrap ((↑b:Int)+(↑(bitN yy0):Int)))),D.v yy1] []))∧((!hasN (↑b:Int).toNat yy0)=false→sK n117 0∧G 0 (stOf 40 [0,3,4] [sL tI L,D.v yy2,D.v yy1] [])))∧(decide (L.getD k.toNat tI.dflt≤(63:Int))=false→false=false∧sK n117 0∧G 0 (stOf 40 [0,3,4] [sL tI L,D.v yy2,D.v yy1] [])))∧(decide (L.getD k.toNat tI.dflt≥(0:Int))=false→false=false∧false=false∧sK n117 0∧G 0 (stOf 40 [0,3,4] [sL tI L,D.v yy2,D.v yy1] [])))∧(decide (k<yy4)=false→R (D.v yy2,[],[]))
theorem e117 (L:List Int) (hL:(L.length:Int)≤9223372036854775807) (z:Nat):∀(k:Int) (b:Nat),0≤k→k+z=L.length→b<W64→∀r,r=ofA b (L.drop k.toNat)→GetsK Tryd.prog Tryd.f30.results.toList [none] (KK n117) 0 (.v (.int .u64 ((r:Nat):Int)),[],[]) 0 (stOf 40 [0,3,4] [slI L,.v (.int .u64 (b:Int)),vi k] []):=by
 induction z with
 |zero=>
  intro k b k0 hk hb r hr;rw[List.drop_eq_nil_of_le (by omega)] at hr;have hr:r=b:=hr;rw[hr];refine gets_vc spNm (fun _=> [0,3,4]) (fun _=> []) 400 (.fork (.fork (.fork (.fork (.hd 0) (.hd 0)) (.f (.hd 0))) (.f (.f (.hd 0)))) .stop) (V:=vq11 L k b) hmG (fun G R=>by kernel_rfl) ?_;unfold vq11;try dsimp only
  simp (disch:=omega) only[oo,oop,oq,reduceCtorEq];repeat' first|with_reducible apply And.intro|intro _|rfl|omega|assumption|trivial|(exfalso;simp_all;done)
 |succ z ih=>
  intro k b k0 hk hb r hr;have hd:=drop_at (xs:=L) (i:=k) (0:Int) k0 (by omega);rw[hd] at hr;simp only[ofA] at hr;refine gets_vc spNm (fun _=> [0,3,4]) (fun _=> []) 400 (.fork (.fork (.fork (.fork (.hd 0) (.hd 0)) (.f (.hd 0))) (.f (.f (.hd 0)))) .stop) (V:=vq11 L k b) hmG (fun G R=>by kernel_rfl) ?_;unfold vq11;try dsimp only
  simp only[Ty.dflt];clear hd
  obtain⟨a,ha⟩:∃a,L.getD k.toNat (0:Int)=a:=⟨_,rfl⟩;simp only[ha] at hr⊢;have hk1:IntKind.i64.wrap (k+1)=k+1:=wrG (by omega) (by omega);rw[hk1];have c:=d111 b a hb;have c2:=d130 a;simp only[Int.toNat_natCast];by_cases h:0≤a∧a<64
  ·rw[if_pos h] at hr;have hbit:bitN a=2^a.toNat:=if_neg (by omega);have hhas:hasN b a=b.testBit a.toNat:=by unfold hasN;rw[decide_eq_true h.1,decide_eq_true h.2];rfl
   rw[hbit] at c2⊢;rw[hhas] at c⊢;cases hb2:b.testBit a.toNat with
   |true=>
    have e:b|||2^a.toNat=b:=by
     apply Nat.eq_of_testBit_eq;intro j;rw[Nat.testBit_or,Nat.testBit_two_pow];by_cases hj:a.toNat=j
     ·rw[←hj,hb2];rfl
     ·simp[hj]
    rw[e] at hr;have hx:=ih (k+1) b (by omega) (by omega) hb r hr;rw[hb2] at c;simp (disch:=omega) only[oo,oop,oq,reduceCtorEq];repeat' first|with_reducible apply And.intro|intro _|rfl|omega|assumption|trivial|(exfalso;simp_all;done)
   |false=>
    have hx:=ih (k+1) (b|||2^a.toNat) (by omega) (by omega) (or_lt hb (u64_mask (by omega))) r hr;have hw:IntKind.u64.wrap ((b:Int)+((2^a.toNat:Nat):Int))=((b|||2^a.toNat:Nat):Int):=by
     rw[←add_or hb2,←Int.natCast_add];exact wrU' (by rw[add_or hb2];exact or_lt hb (u64_mask (by omega)))
    rw[hb2] at c;rw[hw];simp (disch:=omega) only[oo,oop,oq,reduceCtorEq];repeat' first|with_reducible apply And.intro|intro _|rfl|omega|assumption|trivial|(exfalso;simp_all;done)
  ·rw[if_neg h] at hr;have hx:=ih (k+1) b (by omega) (by omega) hb r hr;simp (disch:=omega) only[oo,oop,oq,reduceCtorEq];repeat' first|with_reducible apply And.intro|intro _|rfl|omega|assumption|trivial|(exfalso;simp_all;done)
theorem d117 (L:List Int) (hL:(L.length:Int)≤9223372036854775807):Con Tryd.prog 30 [] [slI L] ((.v (.int .u64 (ofN L:Nat)))) [] []:=by
 refine con_vc (how:=[none]) (c:=n117) (K:=(KK n117)) spNm (fun _=> [0,3,4]) (fun _=> []) 400 (.hd 0) (V:=fun G R=>sK n117 0∧G 0 (stOf 40 [0,3,4] [sL tI L,D.v (Value.int .u64 (0:Int)),vi 0] [])) hmG Tryd.func30 (by kernel_rfl) (by kernel_rfl) (fun G R=>by kernel_rfl) ?_;try dsimp only
 have hx:=e117 L hL L.length 0 0 (by omega) (by omega) (by decide) (ofN L) rfl;simp (disch:=omega) only[oo,oop,oq,reduceCtorEq];repeat' first|with_reducible apply And.intro|intro _|rfl|omega|assumption|trivial|(exfalso;simp_all;done)
theorem low_step (a c k:Nat):(a&&&c)%2^(k+1)=if a.testBit k&&c.testBit k then(a&&&c)%2^k|||2^k else(a&&&c)%2^k:=by
 apply Nat.eq_of_testBit_eq;intro j;rw[Nat.testBit_mod_two_pow];have e:(a&&&c).testBit k=(a.testBit k&&c.testBit k):=Nat.testBit_and _ _ _;split
 ·rename_i h;rw[h] at e;rw[Nat.testBit_or,Nat.testBit_mod_two_pow,Nat.testBit_two_pow];by_cases hj:j=k
  ·subst hj;simp[e]
  ·by_cases hk:j<k
   ·simp[hk,show j<k+1 by omega,show ¬k=j by omega]
   ·simp[hk,show ¬j<k+1 by omega,show ¬k=j by omega]
 ·rename_i h;have h:(a.testBit k&&c.testBit k)=false:=by simpa using h
  rw[h] at e;rw[Nat.testBit_mod_two_pow];by_cases hj:j=k
  ·subst hj;simp[e]
  ·by_cases hk:j<k
   ·simp[hk,show j<k+1 by omega,show ¬k=j by omega]
   ·simp[hk,show ¬j<k+1 by omega]
theorem low_not (m k:Nat):(m%2^k).testBit k=false:=by rw[Nat.testBit_mod_two_pow];simp
def vq12 (a:Nat) (c:Nat) (k:Nat) (b:Nat) (G:GT) (R:RT):Prop:=let yy0:=(Value.int .i64 (IntKind.i64.wrap ((↑k:Int)+1)));let yy1:=(Value.int .u64 (↑a:Int));let yy2:=(Value.int .u64 (↑c:Int));(decide ((↑k:Int)<64)=true→cP 33 [] [D.v yy1,vi k] (vb (hasN (↑a:Int).toNat (↑k:Int))) [] []∧Value.int .u64 (↑a:Int)=Value.int .u64 (↑a:Int)∧vE (↑k:Int) (↑k:Int)∧(hasN (↑a:Int).toNat (↑k:Int)=true→cP 33 [] [D.v yy2,vi k] (vb (hasN (↑c:Int).toNat (↑k:Int))) [] []∧Value.int .u64 (↑c:Int)=Value.int .u64 (↑c:Int)∧vE (↑k:Int) (↑k:Int)∧(hasN (↑c:Int).toNat (↑k:Int)=true→cP 74 [] [vi k] (D.v (Value.int .u64 (↑(bitN (↑k:Int)):Int))) [] []∧vE (↑k:Int) (↑k:Int)∧sK n127 0∧G 0 (stOf 24 [0,1,5,6] [D.v yy1,D.v yy2,D.v (Value.int .u64 (IntKind.u64.wrap ((↑b:Int)+(↑(bitN (↑k:Int)):Int)))),D.v yy0] []))∧(hasN (↑c:Int).toNat (↑k:Int)=false→sK n127 0∧G 0 (stOf 24 [0,1,5,6] [D.v yy1,D.v yy2,D.v (Value.int .u64 (↑b:Int)),D.v yy0] [])))∧(hasN (↑a:Int).toNat (↑k:Int)=false→false=false∧sK n127 0∧G 0 (stOf 24 [0,1,5,6] [D.v yy1,D.v yy2,D.v (Value.int .u64 (↑b:Int)),D.v yy0] [])))∧(decide ((↑k:Int)<64)=false→R (D.v (Value.int .u64 (↑b:Int)),[],[]))
theorem e127 (a c:Nat) (ha:a<W64) (hc:c<W64) (z:Nat):∀(k b:Nat),k+z=64→b=(a&&&c)%2^k→GetsK Tryd.prog Tryd.f124.results.toList [none] (KK n127) 0 (.v (.int .u64 ((a&&&c:Nat):Int)),[],[]) 0 (stOf 24 [0,1,5,6] [u64 a,u64 c,.v (.int .u64 (b:Int)),vi (k:Int)] []):=by
 induction z with
 |zero=>
  intro k b hk hb;have e:b=a&&&c:=by
   rw[hb,show k=64 by omega];exact Nat.mod_eq_of_lt (and_lt ha)
  rw[←e];refine gets_vc spNm (fun _=> [0,1,5,6]) (fun _=> []) 400 (.fork (.fork (.fork (.hd 0) (.hd 0)) (.f (.hd 0))) .stop) (V:=vq12 a c k b) hmG (fun G R=>by kernel_rfl) ?_;unfold vq12;try dsimp only
  simp (disch:=omega) only[oo,oop,oq,reduceCtorEq];repeat' first|with_reducible apply And.intro|intro _|rfl|omega|assumption|trivial|(exfalso;simp_all;done)
 |succ z ih=>
  intro k b hk hb;have hk1:IntKind.i64.wrap ((k:Int)+1)=((k+1:Nat):Int):=by rw[wrG (by omega) (by omega)];simp
  have h1:hasN a (k:Int)=a.testBit k:=by unfold hasN;rw[decide_eq_true (by omega),decide_eq_true (by omega),Int.toNat_natCast];rfl
  have h2:hasN c (k:Int)=c.testBit k:=by unfold hasN;rw[decide_eq_true (by omega),decide_eq_true (by omega),Int.toNat_natCast];rfl
  have c1:=d111 a (k:Int) ha;have c2:=d111 c (k:Int) hc;have c3:=d130 (k:Int);have hbit:bitN (k:Int)=2^k:=by unfold bitN;rw[if_neg (by omega),Int.toNat_natCast]
  have hblt:b<W64:=by rw[hb];exact Nat.lt_of_le_of_lt (Nat.mod_le _ _) (and_lt ha)
  have hnb:b.testBit k=false:=by rw[hb];exact low_not _ _
  have hw:IntKind.u64.wrap ((b:Int)+((2^k:Nat):Int))=((b|||2^k:Nat):Int):=by
   rw[←add_or hnb,←Int.natCast_add];exact wrU' (by rw[add_or hnb];exact or_lt hblt (u64_mask (by omega)))
  have hs:=low_step a c k;rw[←hb] at hs;rw[h1] at c1;rw[h2] at c2;rw[hbit] at c3;refine gets_vc spNm (fun _=> [0,1,5,6]) (fun _=> []) 400 (.fork (.fork (.fork (.hd 0) (.hd 0)) (.f (.hd 0))) .stop) (V:=vq12 a c k b) hmG (fun G R=>by kernel_rfl) ?_;unfold vq12;try dsimp only
  simp only[Int.toNat_natCast,h1,h2,hk1,hbit,hw];cases hta:a.testBit k<;>cases htc:c.testBit k<;>rw[hta] at c1 hs<;>rw[htc] at c2 hs<;>simp only[Bool.and_true,Bool.and_false,if_true,Bool.false_eq_true,if_false] at hs<;>have hx:=ih (k+1) _ (by omega) hs.symm
  all_goals simp (disch:=omega) only[oo,oop,oq,reduceCtorEq];repeat' first|with_reducible apply And.intro|intro _|rfl|omega|assumption|trivial|(exfalso;simp_all;done)
theorem d127 (a c:Nat) (ha:a<W64) (hc:c<W64):Con Tryd.prog 124 [] [u64 a,u64 c] ((.v (.int .u64 ((a&&&c:Nat):Int)))) [] []:=by
 refine con_vc (how:=[none]) (c:=n127) (K:=(KK n127)) spNm (fun _=> [0,1,5,6]) (fun _=> []) 400 (.hd 0) (V:=fun G R=>sK n127 0∧G 0 (stOf 24 [0,1,5,6] [D.v (Value.int .u64 (↑a:Int)),D.v (Value.int .u64 (↑c:Int)),D.v (Value.int .u64 (0:Int)),vi 0] [])) hmG Tryd.func124 (by kernel_rfl) (by kernel_rfl) (fun G R=>by kernel_rfl) ?_;try dsimp only
 have hx:=e127 a c ha hc 64 0 0 (by omega) (by simp[Nat.mod_one]);simp (disch:=omega) only[oo,oop,oq,reduceCtorEq];repeat' first|with_reducible apply And.intro|intro _|rfl|omega|assumption|trivial|(exfalso;simp_all;done)
end Go.Proofs.YtnakmganodkliaaDoorAm
