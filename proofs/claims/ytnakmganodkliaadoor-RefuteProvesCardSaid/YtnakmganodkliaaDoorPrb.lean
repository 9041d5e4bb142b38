/- What refute.Prove may tell, for every problem (claim RefuteProves): the logic, the contracts and the plain laws (part 2) -/
import Derived.WalkKit
import Derived.KernelRfl
import Derived.Test.YtnakmganodkliaaDoorPra
set_option linter.unusedVariables false
set_option linter.unusedSimpArgs false
namespace Go.Proofs.YtnakmganodkliaaDoorAm
open Go
theorem gE {α:Type} {l:List α} {i:Nat} {a:α}:l.getD i a=l[i]?.getD a:=List.getD_eq_getElem?_getD
theorem gQ {α:Type} {l:List α} {i:Nat} (h:i<l.length):l[i]? =some l[i]:=List.getElem?_eq_getElem h
theorem sI {α:Type} (a b:α):(some a=some b)=(a=b):=Option.some.injEq a b
inductive Ty where
 |int (k:IntKind)
 |bool
 |str
 |sl (t:Ty)
 |prod (a b:Ty)
 |unit
 deriving DecidableEq
@[reducible] def Ty.El:Ty→Type
 | .int _=>Int
 | .bool=>Bool
 | .str=>ByteArray
 | .sl t=>List t.El
 | .prod a b=>a.El×b.El
 | .unit=>Unit
def Ty.size:Ty→Nat
 | .int _| .bool| .str| .sl _=>1
 | .prod a b=>a.size+b.size
 | .unit=>0
def Ty.dflt:(t:Ty)→t.El
 | .int _=>(0:Int)
 | .bool=>false
 | .str=>(⟨#[]⟩:ByteArray)
 | .sl t=>([]:List t.El)
 | .prod a b=>(a.dflt,b.dflt)
 | .unit=>()
def Ty.atP:Ty→Nat→Option Ty
 | .sl t,p=>if p=0 then some t else none
 | .prod a b,p=>if p<a.size then a.atP p else b.atP (p-a.size)
 |_,_=>none
def Ty.getP:(t:Ty)→t.El→Nat→(u:Ty)→List u.El
 | .sl t,xs,_,u=>if h:t=u then(h▸xs:List u.El) else []
 | .prod a b,x,p,u=>if p<a.size then a.getP x.1 p u else b.getP x.2 (p-a.size) u
 | .int _,_,_,_| .bool,_,_,_| .str,_,_,_| .unit,_,_,_=> []
def Ty.setP:(t:Ty)→t.El→Nat→(u:Ty)→List u.El→t.El
 | .sl t,xs,_,u,ys=>if h:u=t then(h▸ys:List t.El) else xs
 | .prod a b,x,p,u,ys=>if p<a.size then(a.setP x.1 p u ys,x.2) else(x.1,b.setP x.2 (p-a.size) u ys)
 | .int _,x,_,_,_| .bool,x,_,_,_| .str,x,_,_,_| .unit,x,_,_,_=>x
inductive D where
 |v (x:Value)
 |sl (nn cl:Bool) (t:Ty) (xs:List t.El)
 |arr (t:Ty) (xs:List t.El)
 |own (id off len:Nat) (cap:Option Nat)
 |ptr (id i off:Nat)
 |rptr (cs:List D)
 |bsl (id len sz:Nat)
 |agg (cs:List D)
 |fn (f:FuncId) (cs:List D)
 |tup (ds:List D)
 |lenv (n:Nat)
 |top
instance:Inhabited D:=⟨.top⟩
def Ty.cells:(t:Ty)→t.El→List D
 | .int k,n=> [.v (.int k n)]
 | .bool,b=> [.v (.bool b)]
 | .str,s=> [.v (.string s)]
 | .sl t,xs=> [.sl false false t xs]
 | .prod a b,x=>a.cells x.1++b.cells x.2
 | .unit,_=> []
structure NK where
 e:TypeId
 t:Ty
 p:Nat
 e':TypeId
 u:Ty
 deriving DecidableEq
def NK.ok (k:NK):Bool:=k.t.atP k.p==some k.u&&k.u.size !=0&&k.t.size !=0
inductive Row where
 |box (ty:TypeId) (cells:List D)
 |data (ty:TypeId) (t:Ty) (xs:List t.El)
 |nest (k:NK) (xs:List k.t.El) (h:Option (Nat×D))
@[reducible] def Row.dims:Row→Option (Nat×Nat)
 | .box _ _=>none
 | .data _ t xs=>some (t.size,xs.length)
 | .nest k xs _=>some (k.t.size,xs.length)
inductive Slot where
 |free
 |dead
 |live (r:Row)
abbrev Heap:=List Slot
def slot (H:Heap) (id:Nat):Slot:=H.getD id .free
def hget (H:Heap) (id:Nat):Option Row:=match slot H id with
 | .live r=>some r
 |_=>none
def slotOf:Option Row→Slot
 |some r=> .live r
 |none=> .dead
structure St where
 tmps:List D
 heap:Heap
structure Eff where
 val:D
 allocs:List Row:=[]
 writes:List (Nat×Option Row):=[]
 obl:List Prop:=[]
def evalD (tmps:List D):Operand→D
 | .tmp t=>tmps.getD t .top
 | .const x=> .v x
 | .global g=>match gTab.lookup g with
  |some us=> .rptr (us.map .v)
  |none=> .top
 | .func f=> .fn f []
def rowData (rd:Nat→Option Row) (id off len:Nat) (t:Ty):Option (List t.El):=
 match rd id with
 |some (.data _ t' xs)=>if h:t'=t then some (((h▸xs:List t.El).drop off).take len) else none
 |some (.nest k xs none)=>if h:k.t=t then some (((h▸xs:List t.El).drop off).take len) else none
 |_=>none
def intC (k:IntKind):List D→Option Int
 | [.v (.int k' n)]=>if k'=k then some n else none
 |_=>none
def boolC:List D→Option Bool
 | [.v (.bool b)]=>some b
 |_=>none
def strC:List D→Option ByteArray
 | [.v (.string s)]=>some s
 |_=>none
def slC (rd:Nat→Option Row) (t:Ty):List D→Option (List t.El)
 | [.sl _ _ t' xs]=>if h:t'=t then some (h▸xs) else none
 | [.v (.slice none 0 0)]=>some []
 | [.own id off len _]=>rowData rd id off len t
 |_=>none
def nilC:List D→Option Unit
 | []=>some ()
 |_=>none
def Ty.ofCells (rd:Nat→Option Row):(t:Ty)→List D→Option t.El
 | .int k,cs=>intC k cs
 | .bool,cs=>boolC cs
 | .str,cs=>strC cs
 | .sl t,cs=>slC rd t cs
 | .prod a b,cs=>match a.ofCells rd (cs.take a.size),b.ofCells rd (cs.drop a.size) with
  |some x,some y=>some (x,y)
  |_,_=>none
 | .unit,cs=>nilC cs
def killIds:List D→List Nat
 | []=> []
 | .own id _ _ _::cs=>id::killIds cs
 |_::cs=>killIds cs
def kills (cs:List D):List (Nat×Option Row):=(killIds cs).map fun i=>(i,none)
def aggB (P:Program) (t:TypeId):Bool:=
 match P.underlying t with
 |some (.struct _)|some (.array _ _)=>true
 |_=>false
def intsOf:List D→Option (IntKind×List Int)
 | [.v (.int k n)]=>some (k,[n])
 | .v (.int k n)::ds=>match intsOf ds with
  |some (k',ns)=>if k=k' then some (k,n::ns) else none
  |none=>none
 |_=>none
def tabOf (P:Program) (e:TypeId) (len:Nat) (cs:List D):Option (IntKind×List Int):=
 if P.cellsOf e=1∧16<len then match intsOf cs with
  |some (k,ns)=>if ns.length=len then some (k,ns) else none
  |none=>none
 else none
def cellB:D→Bool
 | .v (.agg _)| .v (.tuple _)=>false
 | .agg _| .arr _ _| .tup _| .top=>false
 |_=>true
def cellsOf:D→Option (List D)
 | .agg cs=>if cs.all cellB then some cs else none
 |d=>if cellB d then some [d] else none
def valD (P:Program) (t:TypeId) (cs:List D):Option D:=
 if aggB P t then some (.agg cs) else match cs with
  | [d]=>some d
  |_=>none
def tyOf (P:Program):Nat→TypeId→Option Ty
 |0,_=>none
 |n+1,t=>
  match P.underlying t with
  |some (.int k)=>some (.int k)
  |some .bool=>some .bool
  |some .string=>some .str
  |some (.slice e)=>(tyOf P n e).map .sl
  |some (.struct fs)=>go n (fs.toList.map (·.type))
  |some (.array len e)=>if len≤16 then go n (List.replicate len e) else none
  |_=>none
where
 go:Nat→List TypeId→Option Ty
  |_,[]=>some .unit
  |0,_=>none
  |n+1,[t]=>tyOf P n t
  |n+1,t::ts=>match tyOf P n t,go n ts with
   |some a,some b=>some (.prod a b)
   |_,_=>none
def binI (op:BinOp) (k:IntKind) (a b:Int):Option (Value×List Prop):=
 match op with
 | .add=>some (.int k (k.wrap (a+b)),[])
 | .sub=>some (.int k (k.wrap (a-b)),[])
 | .mul=>some (.int k (k.wrap (a*b)),[])
 | .quo=>some (.int k (k.wrap (a.tdiv b)),[b≠0])
 | .rem=>some (.int k (a.tmod b),[b≠0])
 | .and=>some (.int k (k.wrap (BitVec.ofInt k.bits a&&&BitVec.ofInt k.bits b).toNat),[])
 | .or=>some (.int k (k.wrap (BitVec.ofInt k.bits a|||BitVec.ofInt k.bits b).toNat),[])
 | .xor=>some (.int k (k.wrap (BitVec.ofInt k.bits a^^^BitVec.ofInt k.bits b).toNat),[])
 | .andNot=>some (.int k (k.wrap (BitVec.ofInt k.bits a&&& ~~~(BitVec.ofInt k.bits b)).toNat),[])
 | .eql=>some (.bool (a==b),[])
 | .neq=>some (.bool (a !=b),[])
 | .lss=>some (.bool (decide (a<b)),[])
 | .leq=>some (.bool (decide (a≤b)),[])
 | .gtr=>some (.bool (decide (a>b)),[])
 | .geq=>some (.bool (decide (a≥b)),[])
 |_=>none
def binD (op:BinOp) (x y:D):Option (Value×List Prop):=
 match op,x,y with
 | .shl,.v (.int k a),.v (.int _ b)=>some (.int k (k.wrap (a*2^(min b.toNat k.bits))),[¬b<0])
 | .shr,.v (.int k a),.v (.int _ b)=>some (.int k (a.fdiv (2^(min b.toNat k.bits))),[¬b<0])
 | .add,.v (.string a),.v (.string b)=>some (.string (a++b),[¬((a.size+b.size:Nat):Int)>IntKind.i64.max])
 |_,.v (.int k a),.v (.int k' b)=>if k=k' then binI op k a b else none
 |_,_,_=>none
def lenD:D→Option Nat
 | .v (.slice _ n _)=>some n
 | .sl _ _ _ xs=>some xs.length
 | .own _ _ len _=>some len
 | .bsl _ len _=>some len
 | .lenv n=>some n
 |_=>none
def nilB:D→Option Bool
 | .v (.slice none _ _)=>some true
 | .sl true _ _ _=>some false
 |_=>none
def eqCells (P:Program):List Field→Nat→List D→List D→Option Bool
 | [],_,[],[]=>some true
 |f::fs,o,.v (.int k a)::xs,.v (.int k' b)::ys=>match P.underlying f.type with
  |some (.int _)=>if f.offset=o∧f.name≠ "_" ∧k=k' then(eqCells P fs (o+1) xs ys).map fun r=>a==b&&r else none
  |_=>none
 |f::fs,o,.v (.bool a)::xs,.v (.bool b)::ys=>match P.underlying f.type with
  |some .bool=>if f.offset=o∧f.name≠ "_" then(eqCells P fs (o+1) xs ys).map fun r=>a==b&&r else none
  |_=>none
 |_,_,_,_=>none
def eqD (P:Program) (op:BinOp) (t:TypeId) (x y:D):Option Value:=
 match op,P.underlying t,x,y with
 | .eql,some .bool,.v (.bool a),.v (.bool b)=>some (.bool (a==b))
 | .neq,some .bool,.v (.bool a),.v (.bool b)=>some (.bool (!(a==b)))
 | .eql,some .string,.v (.string a),.v (.string b)=>some (.bool (a.toList==b.toList))
 | .neq,some .string,.v (.string a),.v (.string b)=>some (.bool (!(a.toList==b.toList)))
 | .eql,some (.slice _),x,.v (.slice none 0 0)=>(nilB x).map .bool
 | .neq,some (.slice _),x,.v (.slice none 0 0)=>(nilB x).map fun b=> .bool (!b)
 | .eql,some (.struct fs),.agg xs,.agg ys=>if P.stoodInHeld t=false∧P.eqGuardType P.depth t=false then(eqCells P fs.toList 0 xs ys).map .bool else none
 | .neq,some (.struct fs),.agg xs,.agg ys=>if P.stoodInHeld t=false∧P.eqGuardType P.depth t=false then(eqCells P fs.toList 0 xs ys).map fun b=> .bool (!b) else none
 |_,_,_,_=>none
def numD:D→Option Int
 | .v (.int _ n)=>some n
 |_=>none
def Reps {α:Type} (R:α→List Value→Prop):List α→List Value→Prop
 | [],us=>us=[]
 |x::xs,us=>∃u1 u2,us=u1++u2∧R x u1∧Reps R xs u2
def At (S:Nat→Prop) (w:World) (A:Option Addr) (us:List Value):Prop:=
 ∀j u,us[j]? =some u→∃a,A=some a∧S a.block∧w.cell? (a.add j)=some u
def RelE (S:Nat→Prop) (w:World):(t:Ty)→t.El→List Value→Prop
 | .int k,n,us=>us=[.int k n]
 | .bool,b,us=>us=[.bool b]
 | .str,s,us=>us=[.string s]
 | .sl t,xs,us=>∃A c us',us=[.slice A xs.length c]∧xs.length≤c∧(A=none→c=0)∧Reps (RelE S w t) xs us'∧At S w A us'
 | .prod a b,x,us=>∃u1 u2,us=u1++u2∧RelE S w a x.1 u1∧RelE S w b x.2 u2
 | .unit,_,us=>us=[]
def GlobOk (S:Nat→Prop) (w:World):Prop:=∀p∈gTab,S p.1∧∀j u,p.2[j]? =some u→w.cell? ⟨p.1,j,none⟩=some u
structure Pl where
 b:Nat
 o:Nat
 n:Nat
structure Loc extends Pl where
 inn:List (Option Pl)
@[reducible] def Loc.of (b o n:Nat):Loc:=⟨⟨b,o,n⟩,[]⟩
def Loc.bs (l:Loc):List Nat:=l.b::l.inn.filterMap (Option.map Pl.b)
theorem Loc.b_in (l:Loc):l.b∈l.bs:=List.mem_cons_self
theorem Loc.bs_mem {l:Loc} {k:Nat}:k∈l.bs↔k=l.b∨∃j p,l.inn.getD j none=some p∧p.b=k:=by
 unfold Loc.bs;rw[List.mem_cons,List.mem_filterMap];refine or_congr Iff.rfl ⟨?_,?_⟩
 ·rintro⟨o,ho,e⟩
  obtain⟨j,hj,hj2⟩:=List.getElem_of_mem ho;cases o with
  |none=>cases e
  |some p=>exact⟨j,p,by rw[gE,gQ hj,hj2];rfl,Option.some.inj e⟩
 ·rintro⟨j,p,h1,h2⟩
  rw[gE] at h1;cases hj:l.inn[j]? with
  |none=>rw[hj] at h1;cases h1
  |some o=>rw[hj] at h1;simp only[Option.getD_some] at h1;subst h1;exact⟨some p,List.mem_of_getElem? hj,by rw[←h2];rfl⟩
theorem Loc.bs_of (b o n:Nat):(Loc.of b o n).bs=[b]:=rfl
structure Ctx where
 ρ:Nat→Option Loc
 H:Heap
 S:Nat→Prop
 w:World
def Ctx.pl (X:Ctx) (id:Nat):Option Pl:=(X.ρ id).map Loc.toPl
theorem Ctx.pl_of {X:Ctx} {id:Nat} {l:Loc} (h:X.ρ id=some l):X.pl id=some l.toPl:=by unfold Ctx.pl;rw[h];rfl
theorem Ctx.pl_some {X:Ctx} {id:Nat} {p:Pl} (h:X.pl id=some p):∃l,X.ρ id=some l∧l.toPl=p:=by
 unfold Ctx.pl at h;cases hl:X.ρ id with
 |none=>rw[hl] at h;cases h
 |some l=>rw[hl] at h;exact⟨l,rfl,Option.some.inj h⟩
mutual
def RelD (X:Ctx):D→Value→Prop
 | .v x,u=>u=x
 | .sl nn cl t xs,u=>∃A c us,u= .slice A xs.length c∧xs.length≤c∧(A=none→c=0)∧(nn=true→A≠none)∧(cl=true→c=xs.length)∧Reps (RelE X.S X.w t) xs us∧At X.S X.w A us
 | .arr t xs,u=>∃us,u= .agg us.toArray∧Reps (RelE X.S X.w t) xs us
 | .own id off len cap,u=>match slot X.H id with
  | .free=>False
  | .dead=>∃A c,u= .slice A len c∧∀k,cap=some k→c=k
  | .live r=>match r.dims with
   |none=>False
   |some (sz,m)=>off+len≤m∧∃A c,u= .slice A len c∧len≤c∧(A=none→c=0)∧(∀k,cap=some k→c=k)∧(cap=none→m≤off+c)∧
    (c=0∨∃l,X.pl id=some l∧A=some ⟨l.b,l.o+off*sz,none⟩∧l.o+(off+c)*sz≤l.n)
 | .ptr id i off,u=>match slot X.H id with
  | .free=>False
  | .dead=>∃p,u= .pointer p
  | .live r=>∃l,X.pl id=some l∧u= .pointer (some ⟨l.b,l.o+(match r.dims with|none=>off|some (sz,_)=>i*sz+off),none⟩)
 | .bsl id len _,u=>match slot X.H id with
  | .free=>False
  | .dead=>∃A,u= .slice A len len
  | .live (.box _ _)=>∃l,X.pl id=some l∧u= .slice (some ⟨l.b,l.o,none⟩) len len
  | .live _=>False
 | .rptr cs,u=>∃a us,u= .pointer (some a)∧RelDs X cs us∧At X.S X.w (some a) us
 | .agg cs,u=>∃us,u= .agg us.toArray∧RelDs X cs us
 | .fn f cs,u=>∃us,u= .func (.func f) #[] us.toArray∧RelDs X cs us
 | .tup cs,u=>∃us,u= .tuple us.toArray∧RelDs X cs us
 | .lenv n,u=>∃A c,u= .slice A n c
 | .top,_=>True
def RelDs (X:Ctx):List D→List Value→Prop
 | [],us=>us=[]
 |d::ds,us=>∃u us',us=u::us'∧RelD X d u∧RelDs X ds us'
end
def RelData (X:Ctx) (e:TypeId) (t:Ty) (xs:List t.El):Option Pl→Prop
 |none=>xs=[]
 |some l=>∃cs,X.w.heap[l.b]? =some (.cells cs e (0,0))∧cs.size=l.n∧∃us,Reps (RelE X.S X.w t) xs us∧(∀u,u∈us→u.oneCell'=true)∧l.o+us.length≤l.n∧∀j u,us[j]? =some u→cs[l.o+j]? =some u
def InnerOk (X:Ctx) (e:TypeId) (u:Ty) (ys:List u.El) (o:Option Pl) (v:Value):Prop:=
 ∃A c,v= .slice A ys.length c∧ys.length≤c∧(A=none→c=0)∧(c=0∨∃l,o=some l∧A=some ⟨l.b,l.o,none⟩∧l.o+c*u.size≤l.n)∧RelData X e u ys o
structure NestEl (X:Ctx) (k:NK) (x:k.t.El) (us:List Value) (o:Option Pl) (h:Option D):Prop where
 flat:∀q c,q≠k.p→(k.t.cells x)[q]? =some c→∃v,us[q]? =some v∧RelD X c v
 inn:∃v,us[k.p]? =some v∧match h with
  |none=>InnerOk X k.e' k.u (k.t.getP x k.p k.u) o v
  |some d=>o=none∧RelD X d v
def holeAt (h:Option (Nat×D)) (j:Nat):Option D:=match h with
 |some (i,d)=>if i=j then some d else none
 |none=>none
def RelRow (X:Ctx) (r:Row):Option Loc→Prop
 |none=>match r with
  | .box _ _=>False
  | .data _ _ xs=>xs=[]
  | .nest _ xs _=>xs=[]
 |some l=>∃cs ty,X.w.heap[l.b]? =some (.cells cs ty (0,0))∧cs.size=l.n∧match r with
  | .box _ ds=>l.o=0∧∃us,cs=us.toArray∧RelDs X ds us∧∀u,u∈us→u.oneCell'=true
  | .data e t xs=>ty=e∧∃us,Reps (RelE X.S X.w t) xs us∧(∀u,u∈us→u.oneCell'=true)∧l.o+us.length≤l.n∧∀j u,us[j]? =some u→cs[l.o+j]? =some u
  | .nest k xs h=>ty=k.e∧k.ok=true∧l.bs.Nodup∧l.inn.length=xs.length∧∃us:List Value,us.length=xs.length*k.t.size∧(∀u,u∈us→u.oneCell'=true)∧l.o+us.length≤l.n∧(∀j u,us[j]? =some u→cs[l.o+j]? =some u)∧
    ∀j x,xs[j]? =some x→NestEl X k x ((us.drop (j*k.t.size)).take k.t.size) (l.inn.getD j none) (holeAt h j)
def Row.okLoc:Row→Loc→Prop
 | .box _ _,l=>l.inn=[]
 | .data _ _ _,l=>l.inn=[]
 | .nest _ _ _,_=>True
structure Beg where
 w:World
 ρ:Nat→Option Loc
 S:Nat→Prop
 n:Nat
def Beg.B (b:Beg) (k:Nat):Prop:=∃id l,id<b.n∧b.ρ id=some l∧k∈l.bs
structure Mem (b:Beg) (X:Ctx):Prop where
 os:X.w.os=b.w.os
 tape:X.w.tape=b.w.tape
 output:X.w.output=b.w.output
 size:b.w.heap.size≤X.w.heap.size
 inj:∀i j p q,hget X.H i≠none→hget X.H j≠none→X.ρ i=some p→X.ρ j=some q→∀k,k∈p.bs→k∈q.bs→i=j
 rows:∀id r,hget X.H id=some r→RelRow X r (X.ρ id)
 sep:∀id p,hget X.H id≠none→X.ρ id=some p→∀k∈p.bs,¬X.S k
 stab:∀k,X.S k→k<X.w.heap.size
 keep:∀k,k<b.w.heap.size→¬b.B k→X.w.heap[k]? =b.w.heap[k]?
 fresh:∀id p,hget X.H id≠none→X.ρ id=some p→∀k∈p.bs,b.w.heap.size≤k∨b.B k
 old:∀id,id<b.n→hget X.H id≠none→X.pl id=(b.ρ id).map Loc.toPl
 sub:∀k,b.S k→X.S k
 sup:∀k,X.S k→b.S k∨b.w.heap.size≤k∨b.B k
 glob:GlobOk X.S X.w
 ok:∀id r p,hget X.H id=some r→X.ρ id=some p→r.okLoc p
structure Con (P:Program) (f:FuncId) (pre:List Row) (args:List D) (val:D) (post:List (Option Row)) (allocs:List Row):Prop where
 fn:∃fn,P.funcs[f]? =some fn∧(fn.name== "runtime.NumGoroutine")=false∧fn.body.isNone=false
 run:∀(w:World) (ρ:Nat→Option Loc) (S:Nat→Prop) (vs:List Value),Mem ⟨w,ρ,S,pre.length⟩ ⟨ρ,pre.map .live,S,w⟩→RelDs ⟨ρ,pre.map .live,S,w⟩ args vs→
  Calls P f vs.toArray w fun e w'=>∃v ρ' S',e= .returned v∧
   Mem ⟨w,ρ,S,pre.length⟩ ⟨ρ',post.map slotOf++allocs.map .live,S',w'⟩∧
   RelD ⟨ρ',post.map slotOf++allocs.map .live,S',w'⟩ val v
structure Ann where
 f:FuncId
 pre:List Row:=[]
 args:List D
 val:D
 post:List (Option Row):=[]
 allocs:List Row:=[]
 cap:List Nat:=[]
 lent:List Nat:=[]
 frz:List Nat:=[]
 nk:Option NK:=none
abbrev Sp:=FuncId→List D→(Nat→Option Row)→Option Ann
def ren (cap:List Nat) (nid:Nat) (id:Nat):Nat:=if id<cap.length then cap.getD id 0 else nid+(id-cap.length)
mutual
def renD (f:Nat→Nat):D→D
 | .own id off len cap=> .own (f id) off len cap
 | .ptr id i off=> .ptr (f id) i off
 | .bsl id len sz=> .bsl (f id) len sz
 | .rptr cs=> .rptr (renDs f cs)
 | .agg cs=> .agg (renDs f cs)
 | .fn g cs=> .fn g (renDs f cs)
 | .tup cs=> .tup (renDs f cs)
 |d=>d
def renDs (f:Nat→Nat):List D→List D
 | []=> []
 |d::ds=>renD f d::renDs f ds
end
def renH (f:Nat→Nat):Option (Nat×D)→Option (Nat×D)
 |some (i,d)=>some (i,renD f d)
 |none=>none
def renRow (f:Nat→Nat):Row→Row
 | .box ty cs=> .box ty (renDs f cs)
 | .nest k xs h=> .nest k xs (renH f h)
 |r=>r
mutual
def closedD (n:Nat):D→Bool
 | .own id _ _ _| .ptr id _ _| .bsl id _ _=>decide (id<n)
 | .rptr cs| .agg cs| .fn _ cs| .tup cs=>closedDs n cs
 |_=>true
def closedDs (n:Nat):List D→Bool
 | []=>true
 |d::ds=>closedD n d&&closedDs n ds
end
def closedRow (n:Nat):Row→Bool
 | .box _ cs=>closedDs n cs
 | .nest _ _ (some (_,d))=>closedD n d
 |_=>true
def Ty.flats:Ty→List Bool
 | .sl _=> [false]
 | .prod a b=>a.flats++b.flats
 | .unit=> []
 | .int _=> [true]
 | .bool=> [true]
 | .str=> [true]
def othersFlat (p:Nat):Nat→List Bool→Bool
 |_,[]=>true
 |i,b::bs=>(b||i==p)&&othersFlat p (i+1) bs
def Ty.flat:Ty→Bool
 | .sl _=>false
 | .prod a b=>a.flat&&b.flat
 |_=>true
mutual
def flatD:D→Bool
 | .sl _ _ _ _| .rptr _| .top=>false
 | .arr t _=>t.flat
 | .agg cs| .fn _ cs| .tup cs=>flatDs cs
 |_=>true
def flatDs:List D→Bool
 | []=>true
 |d::ds=>flatD d&&flatDs ds
end
def flatRow:Row→Bool
 | .box _ cs=>flatDs cs
 | .data _ t _=>t.flat
 | .nest k _ h=>h.isNone&&othersFlat k.p 0 k.t.flats&&k.u.flat
mutual
def fit (rd:Nat→Option Row) (f:Nat→Nat) (soft:List Nat):D→D→Option (List Prop)
 | .v x,.v y=>some [x=y]
 | .v (.slice none 0 0),.sl false false _ xs=>some [xs=[]]
 | .sl _ _ t xs,.sl false false t' xs'=>if h:t=t' then some [(h▸xs:List t'.El)=xs'] else none
 | .sl true _ t xs,.sl true false t' xs'=>if h:t=t' then some [(h▸xs:List t'.El)=xs'] else none
 | .own id off len _,.sl false false t' xs'=>if soft.contains id then match rowData rd id off len t' with
   |some xs=>some [xs=xs']
   |none=>none
  else none
 | .own id off len cap,.own id' off' len' cap'=>if soft.contains id then none else
   match cap' with
   |none=>match cap with
    |none=>some [id=f id',off=off',len=len']
    |some _=>none
   |some k'=>match cap with
    |some k=>some [id=f id',off=off',len=len',k=k']
    |none=>none
 | .arr t xs,.arr t' xs'=>if h:t=t' then some [(h▸xs:List t'.El)=xs'] else none
 | .ptr id i off,.ptr id' i' off'=>some [id=f id',i=i',off=off']
 | .bsl id len sz,.bsl id' len' sz'=>if soft.contains id then none else some [id=f id',len=len',sz=sz']
 | .ptr id i off,.rptr cs'=>if soft.contains id then match rd id with
   |some (.box _ cs)=>fits rd f soft (cs.drop off) cs'
   |_=>none
  else none
 | .agg cs,.agg cs'=>fits rd f soft cs cs'
 | .fn g cs,.fn g' cs'=>if g=g' then fits rd f soft cs cs' else none
 | .rptr cs,.rptr cs'=>fits rd f soft cs cs'
 |_,.top=>some []
 |_,_=>none
def fits (rd:Nat→Option Row) (f:Nat→Nat) (soft:List Nat):List D→List D→Option (List Prop)
 | [],[]=>some []
 |d::ds,e::es=>match fit rd f soft d e,fits rd f soft ds es with
  |some p,some q=>some (p++q)
  |_,_=>none
 |_,_=>none
end
def rowEq (rd:Nat→Option Row) (f:Nat→Nat):Nat→List Row→List Prop
 |_,[]=> []
 |k,r::rs=>(rd (f k)=some (renRow f r))::rowEq rd f (k+1) rs
def shapeEq:List Row→List (Option Row)→Option (List Prop)
 | [],[]=>some []
 |_::rs,none::qs=>shapeEq rs qs
 | .box _ _::rs,some (.box _ _)::qs=>shapeEq rs qs
 | .data e t xs::rs,some (.data e' t' ys)::qs=>if e=e'∧t=t' then(shapeEq rs qs).map ((List.length ys=List.length xs)::·) else none
 | .nest k xs _::rs,some (.nest k' ys _)::qs=>if k=k' then(shapeEq rs qs).map ((List.length ys=List.length xs)::·) else none
 |_,_=>none
def nodupB:List Nat→Bool
 | []=>true
 |a::l=> !l.contains a&&nodupB l
def unf (rd:Nat→Option Row) (k:NK) (xs:List k.t.El):Option (Nat×D)→Option (List k.t.El×List (Nat×Option Row))
 |none=>some (xs,[])
 |some (i,.v (.slice none 0 0))=>some (xs.set i (k.t.setP (xs.getD i k.t.dflt) k.p k.u []),[])
 |some (i,.own r off len _)=>match rd r with
  |some (.data e u zs)=>if h:u=k.u then if e=k.e'∧off=0 then some (xs.set i (k.t.setP (xs.getD i k.t.dflt) k.p k.u ((h▸zs:List k.u.El).take len)),[(r,none)]) else none else none
  |_=>none
 |_=>none
def holeB (rd:Nat→Option Row) (k:NK):D→Bool
 | .v (.slice none 0 0)=>true
 | .own r off _ _=>match rd r with
  |some (.data e u _)=>u=k.u&&e=k.e'&&decide (off=0)
  |_=>false
 |_=>false
def sameH (rd:Nat→Option Row) (d:D):Option (Nat×D)→Option Nat
 |some (i,.own r _ _ _)=>match d with
  | .own r' _ _ _=>if r=r' then some i else if(rd r).isNone then some i else none
  |_=>if(rd r).isNone then some i else none
 |_=>none
def nestB (rd:Nat→Option Row) (k:NK):Nat→List D→Bool
 |0,cs=>cs.isEmpty
 |n+1,cs=>(match(cs.take k.t.size)[k.p]? with
   |some d=>holeB rd k d&&(killIds ((cs.take k.t.size).set k.p (.v (.slice none 0 0)))).isEmpty
   |none=>false)&&nestB rd k n (cs.drop k.t.size)
def nestOf (sp:Sp) (o:Oper):Option NK:=match o.dst with
 |some d=>(sp (2000000+d) [] (fun _=>none)).bind Ann.nk
 |none=>none
def callEff (P:Program) (rd:Nat→Option Row) (nid:Nat) (n:Ann) (callee:D) (args:List D):Option Eff:=
 match callee with
 | .fn g caps=>
  let f:=ren n.cap nid
  if g=n.f&&n.pre.length=n.cap.length&&nodupB (n.cap++n.frz)&&n.pre.all (closedRow n.cap.length)&&closedDs n.cap.length n.args&&n.cap.all (fun i=> !n.lent.contains i)&&n.frz.all (fun i=>(rd i).isSome)
    &&(n.lent.isEmpty||(flatD n.val&&n.allocs.all flatRow&&n.post.all (fun r=>match r with|none=>true|some r=>flatRow r))) then
   match fits rd f (n.lent++n.frz) (args++caps) n.args,shapeEq n.pre n.post with
   |some ps,some qs=>some {val:=renD f n.val,allocs:=n.allocs.map (renRow f),writes:=(n.cap.zip (n.post.map (Option.map (renRow f))))++n.frz.map (fun i=>(i,none)),obl:=Con P n.f n.pre n.args n.val n.post n.allocs::(ps++qs++rowEq rd f 0 n.pre)}
   |_,_=>none
  else none
 |_=>none
def fillD (place:Nat→Option (Nat×Nat)):List D→List (Nat×D)→Option (List D)
 |cells,[]=>some cells
 |cells,(i,d)::rest=>match place i,cellsOf d with
  |some (off,size),some cs=>if cs.length=size&&off+size≤cells.length then fillD place (cells.take off++cs++cells.drop (off+size)) rest else none
  |_,_=>none
def zeroD (P:Program) (t:TypeId):Option (List D):=
 match P.info? t with
 |some i=>match i.zero with
  |some z=>if z.cells.size=i.size&&z.cells.toList.all Value.oneCell' then some (z.cells.toList.map .v) else none
  |none=>none
 |none=>none
def sizeB (P:Program) (t:TypeId):Option Nat:=if(P.underlying t).isSome then(P.info? t).map (·.size) else none
def elems (rd:Nat→Option Row) (t:Ty):Nat→List D→Option (List t.El)
 |0,[]=>some []
 |0,_=>none
 |n+1,cs=>match t.ofCells rd (cs.take t.size),elems rd t n (cs.drop t.size) with
  |some x,some xs=>some (x::xs)
  |_,_=>none
def boxyB (len:Nat) (cs:List D):Bool:=decide (2≤len)&&cs.any fun d=>match d with| .own _ _ _ _=>true|_=>false
def tyFuel:Nat:=12
def optInt:Option D→Option (Option Int)
 |none=>some none
 |some d=>(numD d).map some
def roomy (P:Program) (e:TypeId) (n:Nat):Prop:=n*P.bytesOf e≤140737488355328∧n≤140737488355328
def rdDat (rd:Nat→Option Row) (id:Nat):Option Row:=match rd id with
 |some (.nest _ _ _)=>none
 |r=>r
def appNest (P:Program) (rd:Nat→Option Row) (nid:Nat) (s:D) (id2 n:Nat) (k:NK) (ys:List k.t.El) (h2:Option (Nat×D)) (e:TypeId):Option Eff:=
 if e=k.e&&k.t.size=P.cellsOf e&&(zeroD P e).isSome&&k.ok then match unf rd k ys h2 with
  |some (ys',ws2)=>match s with
   | .v (.slice none 0 0)=>some {val:= .own nid 0 (List.length ys) none,allocs:=[.nest k ys' none],writes:=ws2++[(id2,none)],obl:=[n=List.length ys,roomy P e (List.length ys)]}
   | .own id off len _=>match rd id with
    |some (.nest k' xs h1)=>if hk:k'=k then if off=0&&id≠id2 then match unf rd k (hk▸xs) (h1) with
      |some (xs',ws1)=>if nodupB ((ws1++ws2).map (·.1)) then some {val:= .own nid 0 (len+List.length ys) none,allocs:=[.nest k (xs'.take len++ys') none],writes:=ws1++ws2++[(id,none),(id2,none)],obl:=[n=List.length ys,roomy P e (len+List.length ys)]} else none
      |none=>none
     else none else none
    |_=>none
   |_=>none
  |none=>none
 else none
def appEff0 (P:Program) (rd:Nat→Option Row) (nid:Nat) (s x:D) (e:TypeId):Option Eff:=
 match tyOf P tyFuel e with
 |some ty=>if ty.size=P.cellsOf e&&ty.size≠0&&(zeroD P e).isSome then match(Ty.sl ty).ofCells (rdDat rd) [x] with
   |some ys=>match s with
    | .v (.slice none 0 0)=>some {val:= .own nid 0 (List.length ys) none,allocs:=[.data e ty ys],obl:=[roomy P e (List.length ys)]}
    | .sl _ true ty' []=>if ty'=ty then some {val:= .own nid 0 (List.length ys) none,allocs:=[.data e ty ys],obl:=[roomy P e (List.length ys)]} else none
    | .own id off len cap=>match rd id with
     |some (.data e' ty' xs)=>if h:ty'=ty then if e'=e then
       if cap=some 0 then some {val:= .own nid 0 (len+List.length ys) none,allocs:=[.data e ty ((((h▸xs:List ty.El)).drop off).take len++ys)],obl:=[roomy P e (len+List.length ys)]}
       else some {val:= .own nid 0 (len+List.length ys) none,allocs:=[.data e ty ((((h▸xs:List ty.El)).drop off).take len++ys)],writes:=[(id,none)],obl:=[roomy P e (len+List.length ys)]}
      else none else none
     |_=>none
    |_=>none
   |none=>none
  else none
 |none=>none
def appEff (P:Program) (rd:Nat→Option Row) (nid:Nat) (s x:D) (e:TypeId):Option Eff:=
 match x with
 | .own id2 0 n _=>match rd id2 with
  |some (.nest k ys h2)=>appNest P rd nid s id2 n k ys h2 e
  |_=>appEff0 P rd nid s x e
 |_=>appEff0 P rd nid s x e
def copyEff (P:Program) (rd:Nat→Option Row) (s x:D) (e:TypeId):Option Eff:=
 match s with
 | .own id off len _=>match rd id with
  |some (.data e' ty xs)=>if ty.size=P.cellsOf e&&ty.size≠0&&e'=e then match(Ty.sl ty).ofCells (rdDat rd) [x] with
    |some ys=>
     some {val:= .v (.int .i64 (min (List.length ys) len:Nat)),writes:=[(id,some (.data e ty (xs.take off++(ys.take (min (List.length ys) len))++xs.drop (off+min (List.length ys) len))))]}
    |none=>none
   else none
  |_=>none
 |_=>none
def clearEff (P:Program) (rd:Nat→Option Row) (s:D) (e:TypeId):Option Eff:=
 match s,zeroD P e with
 | .own id off len _,some z=>match rd id with
  |some (.data e' ty xs)=>if ty.size=P.cellsOf e&&ty.size≠0&&e'=e then match ty.ofCells rd z with
    |some y=>some {val:= .v undef,writes:=[(id,some (.data e ty (xs.take off++List.replicate len y++xs.drop (off+len))))]}
    |none=>none
   else none
  |_=>none
 |_,_=>none
def lenEff (P:Program):List D→List TypeId→Option Eff
 | [x],[t]=>match P.underlying t with
  |some (.slice _)=>match lenD x with
   |some n=>some {val:= .v (.int .i64 (n:Nat))}
   |none=>none
  |some .string=>match x with
   | .v (.string s)=>some {val:= .v (.int .i64 (s.size:Nat))}
   |_=>none
  |some (.array n _)=>some {val:= .v (.int .i64 (n:Nat))}
  |_=>none
 |_,_=>none
def capEff (P:Program):List D→List TypeId→Option Eff
 | [x],[t]=>match P.underlying t with
  |some (.slice _)=>match x with
   | .own _ _ _ (some k)=>some {val:= .v (.int .i64 (k:Nat))}
   |_=>none
  |_=>none
 |_,_=>none
def minEff:List D→Option Eff
 | [.v (.int k x),.v (.int _ y)]=>some {val:= .v (.int k (if y<x then y else x))}
 |_=>none
def maxEff:List D→Option Eff
 | [.v (.int k x),.v (.int _ y)]=>some {val:= .v (.int k (if y>x then y else x))}
 |_=>none
def biEff (P:Program) (rd:Nat→Option Row) (nid:Nat) (b:Builtin) (args:List D) (ts:List TypeId):Option Eff:=
 match b with
 | .len=>lenEff P args ts
 | .cap=>capEff P args ts
 | .min=>minEff args
 | .max=>maxEff args
 | .append=>match args,ts with
  | [s,x],[t,t']=>match P.underlying t,P.underlying t' with
   |some (.slice e),some (.slice _)=>appEff P rd nid s x e
   |_,_=>none
  |_,_=>none
 | .copy=>match args,ts with
  | [s,x],[t,_]=>match P.underlying t with
   |some (.slice e)=>copyEff P rd s x e
   |_=>none
  |_,_=>none
 | .clear=>match args,ts with
  | [s],[t]=>match P.underlying t with
   |some (.slice e)=>clearEff P rd s e
   |_=>none
  |_,_=>none
 |_=>none
def clEff (P:Program) (rd:Nat→Option Row) (nid:Nat) (args:List D) (ts:List TypeId):Option Eff:=
 match args,ts with
 | [s,x],[t,t']=>match P.underlying t,P.underlying t' with
  |some (.slice e),some (.slice _)=>match tyOf P tyFuel e with
   |some ty=>if ty.size=P.cellsOf e&&ty.size≠0&&(zeroD P e).isSome then match(Ty.sl ty).ofCells (rdDat rd) [x] with
     |some ys=>match s with
      | .sl _ true ty' xs=>if h:ty'=ty then
        some {val:= .own nid 0 (List.length xs+List.length ys) none,allocs:=[.data e ty ((h▸xs:List ty.El)++ys)],obl:=[List.length ys≠0,roomy P e (List.length xs+List.length ys)]}
        else none
      |_=>none
     |none=>none
    else none
   |none=>none
  |_,_=>none
 |_,_=>none
def bltEff (P:Program) (rd:Nat→Option Row) (nid:Nat) (sp:Sp) (b:Builtin) (args:List D) (ts:List TypeId):Option Eff:=
 match b with
 | .append=>match sp 1000002 args rd with
  |some _=>clEff P rd nid args ts
  |none=>biEff P rd nid .append args ts
 |b=>biEff P rd nid b args ts
def capM:Operand→Operand→Nat→Option Nat
 | .tmp a,.tmp b,n=>if a=b then some n else none
 | .const _,.const _,n=>some n
 |_,_,_=>none
theorem capM_cases (l c:Operand) (n:Nat):capM l c n=some n∨capM l c n=none:=by
 unfold capM;split
 ·split
  ·exact .inl rfl
  ·exact .inr rfl
 ·exact .inl rfl
 ·exact .inr rfl
def opEff (P:Program) (rd:Nat→Option Row) (nid:Nat) (sp:Sp) (o:Oper) (ev:Operand→D):Option Eff:=
 match o.op with
 | .move x| .assign x=>some {val:=ev x}
 | .pick c a b=>match ev c with
  | .v (.bool t)=>match ev a,ev b with
   | .v (.bool p),.v (.bool q)=>some {val:= .v (.bool (cond t p q))}
   |da,db=>match t with
    |true=>some {val:=da}
    |false=>some {val:=db}
  |_=>none
 | .alloc t=>(zeroD P t).map fun cs=>{val:= .ptr nid 0 0,allocs:=[.box t cs]}
 | .box t x=>(cellsOf (ev x)).map fun cs=>{val:= .ptr nid 0 0,allocs:=[.box t cs]}
 | .build t parts=>match P.underlying t,zeroD P t with
  |some (.struct fs),some z=>match fs.toList.mapM (fun f=>(P.info? f.type).map fun i=>(f.offset,i.size)) with
   |some places=>(fillD (places.toArray[·]?) z (parts.toList.map fun(i,x)=>(i,ev x))).map fun cs=>{val:= .agg cs}
   |none=>none
  |some (.array _ e),some z=>match P.info? e with
   |some ie=>(fillD (fun i=>some (i*ie.size,ie.size)) z (parts.toList.map fun(i,x)=>(i,ev x))).map fun cs=>{val:= .agg cs}
   |none=>none
  |_,_=>none
 | .buildSlice t len parts=>match P.underlying t with
  |some (.slice e)=>match tyOf P tyFuel e,zeroD P e with
   |some ty,some z=>
    if ty.size=P.cellsOf e&&ty.size≠0&&len*ty.size≤4096 then
     match fillD (fun i=>some (i*ty.size,ty.size)) (List.replicate len z).flatten (parts.toList.map fun(i,x)=>(i,ev x)) with
     |some cs=>if boxyB len cs&&(nestOf sp o).isNone then some {val:= .bsl nid len ty.size,allocs:=[.box e cs]} else match elems rd ty len cs with
      |some xs=>if nodupB (killIds cs) then match nestOf sp o with
        |none=>some {val:= .own nid 0 len (some len),allocs:=[.data e ty xs],writes:=kills cs}
        |some k=>if h:ty=k.t then if e=k.e&&k.ok&&nestB rd k len cs then some {val:= .own nid 0 len (some len),allocs:=[.nest k (h▸xs) none],writes:=kills cs} else none else none
       else none
      |none=>none
     |none=>none
    else none
   |_,_=>none
  |_=>none
 | .load t a=>match sizeB P t with
  |some s=>match ev a with
   | .ptr id i off=>match rd id with
    |some (.box _ cs)=>if off+s≤cs.length then(valD P t ((cs.drop off).take s)).map fun d=>{val:=d} else none
    |some (.data _ ty xs)=>if off+s≤ty.size then(valD P t (((ty.cells (xs.getD i ty.dflt)).drop off).take s)).map fun d=>{val:=d,obl:=[i<xs.length]} else none
    |some (.nest k xs h)=>if off+s≤k.t.size then
      if off+s≤k.p||k.p<off then(valD P t (((k.t.cells (xs.getD i k.t.dflt)).drop off).take s)).map fun d=>{val:=d,obl:=[i<xs.length]}
      else match nestOf sp o,unf rd k xs h with
       |some _,some (xs',ws)=>(valD P t ((((k.t.cells (xs'.getD i k.t.dflt)).set k.p (.own nid 0 (k.t.getP (xs'.getD i k.t.dflt) k.p k.u).length none)).drop off).take s)).map fun d=>
         {val:=d,allocs:=[.data k.e' k.u (k.t.getP (xs'.getD i k.t.dflt) k.p k.u)],writes:=ws++[(id,some (.nest k xs' (some (i,.own nid 0 (k.t.getP (xs'.getD i k.t.dflt) k.p k.u).length none))))],obl:=[i<xs.length]}
       |_,_=>none
     else none
    |none=>none
   | .rptr cs=>if s≤cs.length then(valD P t (cs.take s)).map fun d=>{val:=d} else none
   |_=>none
  |none=>none
 | .store t a x=>match sizeB P t,cellsOf (ev x) with
  |some s,some cs=>if cs.length=s then match ev a with
   | .ptr id i off=>match rd id with
    |some (.box bt old)=>if off+s≤old.length then some {val:= .v undef,writes:=[(id,some (.box bt (old.take off++cs++old.drop (off+s))))]} else none
    |some (.data e ty xs)=>
     if off+s≤ty.size&&nodupB (id::killIds cs) then
      let old:=ty.cells (xs.getD i ty.dflt)
      match ty.ofCells rd (old.take off++cs++old.drop (off+s)) with
      |some y=>some {val:= .v undef,writes:=(id,some (.data e ty (xs.set i y)))::kills cs,obl:=[i<xs.length]}
      |none=>none
     else none
    |some (.nest k xs h)=>match cs with
     | [d]=>if off=k.p&&holeB rd k d then match sameH rd d h with
       |some j=>some {val:= .v undef,writes:=[(id,some (.nest k xs (some (i,d))))],obl:=[i<xs.length,i=j]}
       |none=>match unf rd k xs h with
        |some (xs',ws)=>some {val:= .v undef,writes:=ws++[(id,some (.nest k xs' (some (i,d))))],obl:=[i<xs.length]}
        |none=>none
      else none
     |_=>none
    |none=>none
   |_=>none
   else none
  |_,_=>none
 | .nilCheck x=>match ev x with
  | .ptr id i off=>match rd id with
   |some _=>some {val:= .ptr id i off}
   |none=>none
  | .rptr cs=>some {val:= .rptr cs}
  |_=>none
 | .binOp op t x y _=>match binD op (ev x) (ev y) with
  |some (v,ps)=>some {val:= .v v,obl:=ps}
  |none=>(eqD P op t (ev x) (ev y)).map fun v=>{val:= .v v}
 | .unOp op _ x=>match op,ev x with
  | .not,.v (.bool b)=>some {val:= .v (.bool (!b))}
  | .neg,.v (.int k n)=>some {val:= .v (.int k (k.wrap (0-n)))}
  |_,_=>none
 | .convert src dst x=>match P.underlying dst,ev x with
  |some (.int k),.v (.int _ n)=>if(P.underlying src).isSome then some {val:= .v (.int k (k.wrap n))} else none
  |_,_=>none
 | .makeFunc (.func f) first caps=>if first.size=0 then some {val:= .fn f (caps.toList.map ev)} else none
 | .makeSlice t lo co=>match P.underlying t,ev lo,ev co with
  |some (.slice e),.v (.int _ l),.v (.int _ c)=>match tyOf P tyFuel e,zeroD P e with
   |some ty,some z=>if ty.size=P.cellsOf e&&ty.size≠0 then match ty.ofCells rd z with
     |some y=>match nestOf sp o with
      |none=>some {val:= .own nid 0 l.toNat (capM lo co c.toNat),allocs:=[.data e ty (List.replicate c.toNat y)],obl:=[0≤l,l≤c,c≤9223372036854775807,c.toNat*P.bytesOf e≤281474976710656]}
      |some k=>if h:ty=k.t then if e=k.e&&k.ok&&(z[k.p]?).any (fun d=>match d with| .v (.slice none 0 0)=>true|_=>false) then some {val:= .own nid 0 l.toNat (capM lo co c.toNat),allocs:=[.nest k (List.replicate c.toNat (h▸y)) none],obl:=[0≤l,l≤c,c≤9223372036854775807,c.toNat*P.bytesOf e≤281474976710656]} else none else none
     |none=>none
    else none
   |_,_=>none
  |_,_,_=>none
 | .slice t x lo hi mx=>match P.underlying t,optInt (lo.map ev),optInt (hi.map ev),optInt (mx.map ev) with
  |some (.slice e),some lo,some hi,some mx=>if mx.isSome&&hi.isNone then none else match ev x with
   | .own id off len cap=>match rd id with
    |some (.data _ ty xs)=>
     if ty.size=P.cellsOf e&&ty.size≠0 then
      let l:=(lo.getD 0);let h:=hi.getD len
      match mx,cap with
      |none,none=>some {val:= .own id (off+l.toNat) (h.toNat-l.toNat) none,obl:=[0≤l,l≤h,h≤((xs.length-off:Nat):Int)]}
      |none,some c=>some {val:= .own id (off+l.toNat) (h.toNat-l.toNat) (some (c-l.toNat)),obl:=[0≤l,l≤h,h≤(c:Int),off+c≤xs.length]}
      |some m,none=>some {val:= .own id (off+l.toNat) (h.toNat-l.toNat) (some (m.toNat-l.toNat)),obl:=[0≤l,l≤h,h≤m,m≤((xs.length-off:Nat):Int)]}
      |some m,some c=>some {val:= .own id (off+l.toNat) (h.toNat-l.toNat) (some (m.toNat-l.toNat)),obl:=[0≤l,l≤h,h≤m,m≤(c:Int),off+c≤xs.length]}
     else none
    |_=>none
   | .sl nn _ ty xs=>
     if ty.size=P.cellsOf e&&ty.size≠0 then
      let l:=(lo.getD 0);let h:=hi.getD xs.length
      match mx with
      |none=>some {val:= .sl nn false ty ((xs.drop l.toNat).take (h.toNat-l.toNat)),obl:=[0≤l,l≤h,h≤(xs.length:Int)]}
      |some m=>some {val:= .sl nn true ty ((xs.drop l.toNat).take (h.toNat-l.toNat)),obl:=[0≤l,l≤h,h=m,m≤(xs.length:Int)]}
     else none
   |_=>none
  |some .string,some lo,some hi,some none=>match ev x with
   | .v (.string s)=>some {val:= .v (.string (s.extract (lo.getD 0).toNat (hi.getD s.size).toNat)),obl:=[0≤lo.getD 0,lo.getD 0≤hi.getD s.size,hi.getD s.size≤(s.size:Int)]}
   |_=>none
  |_,_,_,_=>none
 | .fieldAddr t x f=>match P.underlying t with
  |some (.struct fs)=>match fs[f]? with
   |some fd=>if P.cellsOf fd.type≠0 then match ev x with
     | .ptr id i off=>match rd id with
      |some _=>some {val:= .ptr id i (off+fd.offset)}
      |none=>none
     | .rptr cs=>some {val:= .rptr (cs.drop fd.offset)}
     |_=>none
    else none
   |none=>none
  |_=>none
 | .indexAddr t x ix=>match ev ix with
  | .v (.int _ i)=>match P.underlying t with
   |some (.slice e)=>match ev x with
    | .own id off len _=>match rd id with
     |some (.data _ ty _)=>if ty.size=P.cellsOf e&&ty.size≠0 then some {val:= .ptr id (off+i.toNat) 0,obl:=[0≤i,i< (len:Int)]} else none
     |some (.nest k _ _)=>if k.t.size=P.cellsOf e&&k.t.size≠0 then some {val:= .ptr id (off+i.toNat) 0,obl:=[0≤i,i< (len:Int)]} else none
     |_=>none
    | .bsl id len sz=>match rd id with
     |some (.box _ _)=>if sz=P.cellsOf e&&sz≠0 then some {val:= .ptr id 0 (i.toNat*sz),obl:=[0≤i,i< (len:Int)]} else none
     |_=>none
    | .sl _ _ ty xs=>if ty.size=P.cellsOf e&&ty.size≠0 then some {val:= .rptr (ty.cells (xs.getD i.toNat ty.dflt)),obl:=[0≤i,i< (xs.length:Int)]} else none
    |_=>none
   |some (.array len e)=>if P.cellsOf e=0 then none else match ev x with
    | .ptr id j off=>match rd id with
     |some (.box _ _)=>some {val:= .ptr id j (off+i.toNat*P.cellsOf e),obl:=[0≤i,i< (len:Int)]}
     |_=>none
    | .rptr cs=>match tabOf P e len cs with
     |some (k,ns)=>some {val:= .rptr [.v (.int k (ns.getD i.toNat 0))],obl:=[0≤i,i< (len:Int)]}
     |none=>some {val:= .rptr (cs.drop (i.toNat*P.cellsOf e)),obl:=[0≤i,i< (len:Int)]}
    |_=>none
   |_=>none
  |_=>none
 | .index t x ix=>match ev ix,P.underlying t,ev x with
  | .v (.int _ i),some (.array len e),.agg cs=>match sizeB P e with
   |some s=>(valD P e ((cs.drop (i.toNat*s)).take s)).map fun d=>{val:=d,obl:=[0≤i,i< (len:Int),i.toNat*s+s≤cs.length]}
   |none=>none
  |_,_,_=>none
 | .extract t i=>match ev t with
  | .tup ds=>(ds[i]?).map fun d=>{val:=d}
  |_=>none
 | .call c=>match c.callee with
  | .value f=>match ev f with
   | .fn g caps=>match sp g (c.args.toList.map ev++caps) rd with
    |some n=>callEff P rd nid n (.fn g caps) (c.args.toList.map ev)
    |none=>none
   |_=>none
  | .builtin b=>bltEff P rd nid sp b (c.args.toList.map ev) c.argTypes.toList
  |_=>none
 |_=>none
structure Dec where
 o:Oper
 nid:Nat
 cnt:Nat
 forb:List Nat
 wr:Bool
 sp:Sp
 fix:Option Bool
 ws:List Nat:=[]
def putD (tmps:List D):Option Tmp→D→List D
 |some d,x=>tmps.set d x
 |none,_=>tmps
def wantedD (ops:Array Oper) (tmps:List D) (o:Oper):Option Bool:=
 match o.guard with
 |none=>some true
 |some (j,want)=>match(ops[j]?).bind (·.dst) with
  |some t=>match tmps[t]? with
   |some (.v (.bool b))=>some (b==want)
   |some (.v (.tuple _))=>some false
   |_=>none
  |none=>none
def rdOf (H:Heap) (forb:List Nat) (id:Nat):Option Row:=if forb.contains id then none else hget H id
def setAllocs:Heap→Nat→List Row→Heap
 |H,_,[]=>H
 |H,n,r::rs=>setAllocs (H.set n (.live r)) (n+1) rs
def setWrites:Heap→List (Nat×Option Row)→Heap
 |H,[]=>H
 |H,(id,r)::ws=>setWrites (H.set id (slotOf r)) ws
def freeB (H:Heap) (nid n:Nat):Bool:=(List.range n).all fun j=>decide (nid+j<H.length)&&(match slot H (nid+j) with| .free=>true|_=>false)
def fixE (fix:Option Bool) (E:Eff):Option Eff:=
 match fix with
 |none=>some E
 |some c=>match E.val with
  | .v (.bool b)=>some {E with val:= .v (.bool c),obl:=(b=c)::E.obl}
  |_=>none
def effD (P:Program) (rd:Nat→Option Row) (d:Dec) (ev:Operand→D):Option Eff:=
 match opEff P rd d.nid d.sp d.o ev with
 |some E=>fixE d.fix E
 |none=>none
def stepD (P:Program) (ops:Array Oper) (d:Dec) (s:St):Option (St×List Prop):=
 match wantedD ops s.tmps d.o with
 |some true=>match effD P (rdOf s.heap d.forb) d (evalD s.tmps) with
  |some E=>if(d.wr||E.writes.all fun p=>d.ws.contains p.1)&&decide (E.allocs.length≤d.cnt)&&freeB s.heap d.nid E.allocs.length&&E.writes.all (fun p=>(rdOf s.heap d.forb p.1).isSome) then
    some (⟨putD s.tmps d.o.dst E.val,setWrites (setAllocs s.heap d.nid E.allocs) E.writes⟩,E.obl)
   else none
  |none=>none
 |some false=>some (⟨putD s.tmps d.o.dst (.v undef),s.heap⟩,[])
 |none=>none
def runD (P:Program) (ops:Array Oper):List Dec→St→Option (St×List Prop)
 | [],s=>some (s,[])
 |d::ds,s=>match stepD P ops d s with
  |some (s',ps)=>match runD P ops ds s' with
   |some (s'',qs)=>some (s'',ps++qs)
   |none=>none
  |none=>none
def weight (sp:Sp) (o:Oper):Nat:=
 match o.op with
 | .load _ _=>if(nestOf sp o).isSome then 1 else 0
 | .alloc _| .box _ _| .buildSlice _ _ _| .makeSlice _ _ _=>1
 | .call c=>match c.callee with
  | .builtin .append=>1
  | .value _=>8
  |_=>0
 |_=>0
def heapy (o:Oper):Bool:=
 match o.op with
 | .load _ _| .store _ _ _| .buildSlice _ _ _| .slice _ _ _ _ _| .indexAddr _ _ _| .makeSlice _ _ _| .fieldAddr _ _ _| .nilCheck _=>true
 | .call c=>match c.callee with
  | .builtin .len| .builtin .cap| .builtin .min| .builtin .max=>false
  |_=>true
 |_=>false
def decs (sp:Sp) (asm:List (Nat×Bool)):Nat→Nat→List Oper→List Dec
 |_,_,[]=> []
 |i,nid,o::os=>⟨o,nid,weight sp o,[],true,sp,asm.lookup i,[]⟩::decs sp asm (i+1) (nid+weight sp o) os
def total (sp:Sp):List Oper→Nat
 | []=>0
 |o::os=>weight sp o+total sp os
def ordered (b:Array Nat) (i j:Nat):Bool:=(b.getD j 0).testBit i||(b.getD i 0).testBit j
def guardDecs (b:Array Nat) (W:List (List Nat)) (all:List (Nat×Dec)):List (Nat×Dec)→List Dec
 | []=> []
 |(i,d)::ds=>
  {d with
   forb:=all.flatMap fun(j,e)=>if j≠i&& !ordered b i j then List.range' e.nid e.cnt++W.getD j [] else []
   wr:=all.all fun(j,e)=>j=i||ordered b i j|| !heapy e.o
   ws:=W.getD i []}::guardDecs b W all ds
def numbered (l:List Dec):List (Nat×Dec):=(List.range l.length).zip l
def mayWrite (sp:Sp) (o:Oper):Bool:=
 match o.op with
 | .store _ _ _| .buildSlice _ _ _=>true
 | .load _ _=>(nestOf sp o).isSome
 | .call c=>match c.callee with
  | .builtin .append| .builtin .copy| .builtin .clear=>true
  | .value _=>true
  |_=>false
 |_=>false
def brings (o:Oper):Bool:=
 match o.op with
 | .alloc _| .box _ _| .makeSlice _ _ _=>true
 |_=>false
def trialW (P:Program) (ops:Array Oper):List Dec→St→List (List Nat)
 | [],_=> []
 |d::ds,s=>
  (if mayWrite d.sp d.o then(match effD P (hget s.heap) d (evalD s.tmps) with
   |some E=>E.writes.map (·.1)
   |none=> []) else [])::
  trialW P ops ds ⟨putD s.tmps d.o.dst (match effD P (hget s.heap) d (evalD s.tmps) with
   |some E=>E.val
   |none=> .top),if mayWrite d.sp d.o||brings d.o then(match effD P (hget s.heap) d (evalD s.tmps) with
   |some E=>setWrites (setAllocs s.heap d.nid E.allocs) E.writes
   |none=>s.heap) else s.heap⟩
def needW (sp:Sp) (b:Array Nat) (all:List (Nat×Dec)):Bool:=
 all.any fun(i,d)=>mayWrite sp d.o&&all.any fun(j,e)=>j≠i&& !ordered b i j&&heapy e.o
def wsOf (P:Program) (sp:Sp) (ops:Array Oper) (s:St):List (List Nat):=
 let l:=decs sp [] 0 s.heap.length ops.toList
 if needW sp (Region.before ops) (numbered l) then trialW P ops l ⟨s.tmps,s.heap++List.replicate (total sp ops.toList) .free⟩ else []
def decsDraw (W:List (List Nat)) (sp:Sp) (asm:List (Nat×Bool)) (nid:Nat) (ops:Array Oper):List Dec:=
 let l:=numbered (decs sp asm 0 nid ops.toList)
 guardDecs (Region.before ops) W l l
def apartAll (ops:Array Oper) (b:Array Nat):Bool:=
 (List.range ops.size).all fun j=>(List.range j).all fun i=>ordered b i j||match ops[i]?,ops[j]? with
  |some x,some y=>x.apart ops y
  |_,_=>false
def bitsOf (B:Array Nat) (o:Oper):Nat:=o.after.toList.foldl (fun s e=>if Region.binds .any e then s|||2^e.on|||B.getD e.on 0 else s) 0
def orderB (ops:Array Oper) (B:Array Nat):Bool:=
 (List.range ops.size).all fun k=>match ops[k]? with
  |some o=>B.getD k 0==bitsOf B o&&o.after.toList.all fun e=> !Region.binds .any e||decide (e.on<k)
  |none=>true
def noDefer (ops:Array Oper):Bool:=ops.toList.all fun o=>match o.op with
 | .defer _=>false
 |_=>true
def runR (P:Program) (sp:Sp) (asm:List (Nat×Bool)) (ops:Array Oper) (draw:Bool) (s:St):Option (St×List Prop):=
 let n:=s.heap.length
 let s':St:=⟨s.tmps,s.heap++List.replicate (total sp ops.toList) .free⟩
 if noDefer ops then
  if draw then
   if apartAll ops (Region.before ops)&&orderB ops (Region.before ops) then runD P ops (decsDraw (wsOf P sp ops s) sp asm n ops) s' else none
  else runD P ops (decs sp asm 0 n ops.toList) s'
 else none
theorem add_block (a:Addr) (j:Nat):(a.add j).block=a.block:=by unfold Addr.add;split<;>rfl
theorem add_plain (b o j:Nat):(⟨b,o,none⟩:Addr).add j=⟨b,o+j,none⟩:=by unfold Addr.add;split<;>simp_all
theorem cell_same {w w':World} {a:Addr} (h:w'.heap[a.block]? =w.heap[a.block]?):w'.cell? a=w.cell? a:=World.cell?_of_block h
theorem Reps_mono {α:Type} {R R':α→List Value→Prop} (h:∀x us,R x us→R' x us):∀(xs:List α) (us:List Value),Reps R xs us→Reps R' xs us
 | [],_,hr=>hr
 |x::xs,us,⟨u1,u2,e,h1,h2⟩=>⟨u1,u2,e,h x u1 h1,Reps_mono h xs u2 h2⟩
theorem At_mono {S S':Nat→Prop} {w w':World} (h:∀k,S k→S' k∧w'.heap[k]? =w.heap[k]?) {A:Option Addr} {us:List Value} (ha:At S w A us):At S' w' A us:=by
 intro j u hj;obtain⟨a,e,hs,hc⟩:=ha j u hj;exact⟨a,e,(h _ hs).1,(cell_same (w:=w) (w':=w') (by rw[add_block];exact(h _ hs).2)).trans hc⟩
theorem RelE_mono {S S':Nat→Prop} {w w':World} (h:∀k,S k→S' k∧w'.heap[k]? =w.heap[k]?):∀(t:Ty) (x:t.El) (us:List Value),RelE S w t x us→RelE S' w' t x us
 | .int _,_,_,hr=>hr
 | .bool,_,_,hr=>hr
 | .str,_,_,hr=>hr
 | .sl t,xs,us,⟨A,c,us',e,h1,h2,h3,h4⟩=>⟨A,c,us',e,h1,h2,Reps_mono (RelE_mono h t) xs us' h3,At_mono h h4⟩
 | .prod a b,x,us,⟨u1,u2,e,h1,h2⟩=>⟨u1,u2,e,RelE_mono h a x.1 u1 h1,RelE_mono h b x.2 u2 h2⟩
 | .unit,_,_,hr=>hr
theorem RelE_flat {S S':Nat→Prop} {w w':World}:∀(t:Ty) (x:t.El) (us:List Value),t.flat=true→RelE S w t x us→RelE S' w' t x us
 | .int _,_,_,_,hr=>hr
 | .bool,_,_,_,hr=>hr
 | .str,_,_,_,hr=>hr
 | .sl t,xs,us,hf,_=>by simp[Ty.flat] at hf
 | .prod a b,x,us,hf,⟨u1,u2,e,h1,h2⟩=>by
  simp[Ty.flat] at hf;exact⟨u1,u2,e,RelE_flat a x.1 u1 hf.1 h1,RelE_flat b x.2 u2 hf.2 h2⟩
 | .unit,_,_,_,hr=>hr
theorem RelE_length {S:Nat→Prop} {w:World}:∀(t:Ty) (x:t.El) (us:List Value),RelE S w t x us→us.length=t.size
 | .int _,_,_,hr=>by rw[hr];rfl
 | .bool,_,_,hr=>by rw[hr];rfl
 | .str,_,_,hr=>by rw[hr];rfl
 | .sl t,xs,us,⟨A,c,us',e,_⟩=>by rw[e];rfl
 | .prod a b,x,us,⟨u1,u2,e,h1,h2⟩=>by rw[e,List.length_append,RelE_length a _ _ h1,RelE_length b _ _ h2];rfl
 | .unit,_,_,hr=>by rw[hr];rfl
theorem GlobOk.le {S S':Nat→Prop} {w w':World} (h:GlobOk S w) (hl:∀k,S k→S' k∧w'.heap[k]? =w.heap[k]?):GlobOk S' w':=by
 intro p hp;obtain⟨h1,h2⟩:=h p hp;refine⟨(hl _ h1).1,fun j u hj=> ?_⟩;rw[cell_same (w:=w) (hl _ h1).2];exact h2 j u hj
def Comp (r r':Row):Prop:=r.dims=r'.dims
theorem Comp.refl (r:Row):Comp r r:=rfl
def Pair (X Y:Ctx) (a b:Nat):Prop:=
 match slot X.H a,slot Y.H b with
 | .free,_=>True
 |_,.free=>False
 |_,.dead=>True
 | .dead,.live _=>False
 | .live r,.live r'=>Comp r r'∧Y.pl b=X.pl a
mutual
theorem relD_pair {X Y:Ctx} {g h:Nat→Nat} (hp:∀id,Pair X Y (g id) (h id)):
  ∀(d:D) (u:Value),((∀k,X.S k→Y.S k∧Y.w.heap[k]? =X.w.heap[k]?)∨flatD d=true)→RelD X (renD g d) u→RelD Y (renD h d) u
 | .v x,u,_,hr=>by simpa only[renD,RelD] using hr
 | .sl nn cl t xs,u,hs,hr=>by
  have hs:=hs.resolve_right (by simp[flatD]);simp only[renD,RelD] at hr⊢;obtain⟨A,c,us,e,h1,h2,h3,h4,h5,h6⟩:=hr;exact⟨A,c,us,e,h1,h2,h3,h4,Reps_mono (RelE_mono hs t) xs us h5,At_mono hs h6⟩
 | .arr t xs,u,hs,hr=>by
  simp only[renD,RelD] at hr⊢;obtain⟨us,e,h1⟩:=hr;refine⟨us,e,?_⟩;rcases hs with hs|hs
  ·exact Reps_mono (RelE_mono hs t) xs us h1
  ·exact Reps_mono (fun x us=>RelE_flat t x us (by simpa [flatD] using hs)) xs us h1
 | .own id off len cap,u,hs,hr=>by
  simp only[renD,RelD] at hr⊢;have hq:=hp id;simp only[Pair] at hq;cases hx:slot X.H (g id) with
  |free=>rw[hx] at hr;exact hr.elim
  |dead=>
   rw[hx] at hr hq;cases hy:slot Y.H (h id) with
   |free=>rw[hy] at hq;exact hq.elim
   |dead=>exact hr
   |live r=>rw[hy] at hq;exact hq.elim
  |live r=>
   rw[hx] at hr hq;cases hy:slot Y.H (h id) with
   |free=>rw[hy] at hq;exact hq.elim
   |dead=>
    simp only at hr;cases hd:r.dims with
    |none=>rw[hd] at hr;exact hr.elim
    |some p=>rw[hd] at hr;obtain⟨_,A,c,e,_,_,hk,_⟩:=hr;exact⟨A,c,e,hk⟩
   |live r'=>
    rw[hy] at hq;obtain⟨hc,hρ⟩:=hq;simp only at hr⊢;rw[←hc,hρ];exact hr
 | .ptr id i off,u,hs,hr=>by
  simp only[renD,RelD] at hr⊢;have hq:=hp id;simp only[Pair] at hq;cases hx:slot X.H (g id) with
  |free=>rw[hx] at hr;exact hr.elim
  |dead=>
   rw[hx] at hr hq;cases hy:slot Y.H (h id) with
   |free=>rw[hy] at hq;exact hq.elim
   |dead=>exact hr
   |live r=>rw[hy] at hq;exact hq.elim
  |live r=>
   rw[hx] at hr hq;cases hy:slot Y.H (h id) with
   |free=>rw[hy] at hq;exact hq.elim
   |dead=>obtain⟨l,_,e⟩:=hr;exact⟨_,e⟩
   |live r'=>
    rw[hy] at hq;obtain⟨hc,hρ⟩:=hq;simp only at hr⊢;rw[hρ,←hc];exact hr
 | .lenv n,u,hs,hr=>by
  simp only[renD,RelD] at hr⊢;exact hr
 | .bsl id len sz,u,hs,hr=>by
  simp only[renD,RelD] at hr⊢;have hq:=hp id;simp only[Pair] at hq;cases hx:slot X.H (g id) with
  |free=>rw[hx] at hr;exact hr.elim
  |dead=>
   rw[hx] at hr hq;cases hy:slot Y.H (h id) with
   |free=>rw[hy] at hq;exact hq.elim
   |dead=>exact hr
   |live r=>rw[hy] at hq;exact hq.elim
  |live r=>
   rw[hx] at hr hq;cases hy:slot Y.H (h id) with
   |free=>rw[hy] at hq;exact hq.elim
   |dead=>
    cases r with
    |data _ _ _=>exact hr.elim
    |nest _ _ _=>exact hr.elim
    |box _ _=>obtain⟨l,_,e⟩:=hr;exact⟨_,e⟩
   |live r'=>
    rw[hy] at hq;obtain⟨hc,hρ⟩:=hq;cases r with
    |data _ _ _=>exact hr.elim
    |nest _ _ _=>exact hr.elim
    |box _ _=>
     cases r' with
     |data _ _ _=>cases hc
     |nest _ _ _=>cases hc
     |box _ _=>
      simp only at hr⊢;rw[hρ];exact hr
 | .rptr cs,u,hs,hr=>by
  have hs:=hs.resolve_right (by simp[flatD]);simp only[renD,RelD] at hr⊢;obtain⟨a,us,e,h1,h2⟩:=hr;exact⟨a,us,e,relDs_pair hp cs us (.inl hs) h1,At_mono hs h2⟩
 | .agg cs,u,hs,hr=>by
  simp only[renD,RelD] at hr⊢;obtain⟨us,e,h1⟩:=hr;exact⟨us,e,relDs_pair hp cs us (hs.imp id (by simp[flatD])) h1⟩
 | .fn f cs,u,hs,hr=>by
  simp only[renD,RelD] at hr⊢;obtain⟨us,e,h1⟩:=hr;exact⟨us,e,relDs_pair hp cs us (hs.imp id (by simp[flatD])) h1⟩
 | .tup cs,u,hs,hr=>by
  simp only[renD,RelD] at hr⊢;obtain⟨us,e,h1⟩:=hr;exact⟨us,e,relDs_pair hp cs us (hs.imp id (by simp[flatD])) h1⟩
 | .top,u,hs,hr=>by simp only[renD,RelD]
theorem relDs_pair {X Y:Ctx} {g h:Nat→Nat} (hp:∀id,Pair X Y (g id) (h id)):
  ∀(ds:List D) (us:List Value),((∀k,X.S k→Y.S k∧Y.w.heap[k]? =X.w.heap[k]?)∨flatDs ds=true)→RelDs X (renDs g ds) us→RelDs Y (renDs h ds) us
 | [],us,_,hr=>by simpa only[renDs,RelDs] using hr
 |d::ds,us,hs,hr=>by
  simp only[renDs,RelDs] at hr⊢;obtain⟨u,us',e,h1,h2⟩:=hr;exact⟨u,us',e,relD_pair hp d u (hs.imp id (by simp[flatDs];exact fun a _=>a)) h1,relDs_pair hp ds us' (hs.imp id (by simp[flatDs])) h2⟩
end
mutual
theorem renD_id:∀d:D,renD (fun i=>i) d=d
 | .v _=>rfl
 | .sl _ _ _ _=>rfl
 | .arr _ _=>rfl
 | .own _ _ _ _=>rfl
 | .ptr _ _ _=>rfl
 | .bsl _ _ _=>rfl
 | .lenv _=>rfl
 | .rptr cs=>by simp only[renD,renDs_id cs]
 | .agg cs=>by simp only[renD,renDs_id cs]
 | .fn _ cs=>by simp only[renD,renDs_id cs]
 | .tup cs=>by simp only[renD,renDs_id cs]
 | .top=>rfl
theorem renDs_id:∀ds:List D,renDs (fun i=>i) ds=ds
 | []=>rfl
 |d::ds=>by simp only[renDs,renD_id d,renDs_id ds]
end
structure Le (X Y:Ctx):Prop where
 st:∀k,X.S k→Y.S k∧Y.w.heap[k]? =X.w.heap[k]?
 pr:∀id,Pair X Y id id
theorem Le.d {X Y:Ctx} (h:Le X Y) {d:D} {u:Value} (hr:RelD X d u):RelD Y d u:=by
 have:=relD_pair (g:=fun i=>i) (h:=fun i=>i) h.pr d u (.inl h.st);rw[renD_id] at this;exact this hr
theorem Le.ds {X Y:Ctx} (h:Le X Y) {ds:List D} {us:List Value} (hr:RelDs X ds us):RelDs Y ds us:=by
 have:=relDs_pair (g:=fun i=>i) (h:=fun i=>i) h.pr ds us (.inl h.st);rw[renDs_id] at this;exact this hr
theorem Pair.self (X:Ctx) (a:Nat):Pair X X a a:=by
 unfold Pair;cases h:slot X.H a<;>simp[Comp.refl]
theorem Le.refl (X:Ctx):Le X X:=⟨fun _ h=>⟨h,rfl⟩,Pair.self X⟩
theorem Comp.trans {a b c:Row} (h:Comp a b) (h':Comp b c):Comp a c:=Eq.trans h h'
theorem Pair.trans {X Y Z:Ctx} {a b c:Nat} (h:Pair X Y a b) (k:Pair Y Z b c):Pair X Z a c:=by
 unfold Pair at*;cases hx:slot X.H a<;>cases hy:slot Y.H b<;>cases hz:slot Z.H c<;>simp_all
 exact h.1.trans k.1
theorem Le.trans {X Y Z:Ctx} (h:Le X Y) (k:Le Y Z):Le X Z:=
 ⟨fun i hi=>⟨(k.st i (h.st i hi).1).1,(k.st i (h.st i hi).1).2.trans (h.st i hi).2⟩,fun id=>(h.pr id).trans (k.pr id)⟩
theorem hget_live {H:Heap} {id:Nat} {r:Row}:hget H id=some r↔slot H id= .live r:=by
 unfold hget;cases slot H id<;>simp
theorem slot_set (H:Heap) (i j:Nat) (s:Slot):slot (H.set i s) j=if i=j∧i<H.length then s else slot H j:=by
 unfold slot;simp only[gE,List.getElem?_set];by_cases h:i=j
 ·subst h;by_cases h2:i<H.length
  ·simp[h2]
  ·simp[h2]
 ·simp[h]
theorem hget_set (H:Heap) (i j:Nat) (s:Slot):hget (H.set i s) j=if i=j∧i<H.length then(match s with| .live r=>some r|_=>none) else hget H j:=by
 unfold hget;rw[slot_set];by_cases h:i=j∧i<H.length
 ·simp only[if_pos h];try (cases s<;>rfl)
 ·simp only[if_neg h]
def Ctx.put (X:Ctx) (id:Nat) (s:Slot) (l:Option Loc) (S':Nat→Prop) (w':World):Ctx:=
 ⟨fun i=>if i=id then l else X.ρ i,X.H.set id s,S',w'⟩
theorem lt_of_slot {H:Heap} {id:Nat} (h:slot H id≠ .free):id<H.length:=by
 apply Nat.lt_of_not_le;intro hle;apply h;unfold slot;simp[gE,List.getElem?_eq_none hle]
theorem heap_lt {w:World} {k:Nat} {o:Obj} (h:w.heap[k]? =some o):k<w.heap.size:=(Array.getElem?_eq_some_iff.1 h).1
theorem RelRow.cells {X:Ctx} {r:Row} {l:Loc} (h:RelRow X r (some l)) (ho:r.okLoc l):∀k∈l.bs,∃cs ty,X.w.heap[k]? =some (.cells cs ty (0,0)):=by
 intro k hk;have own:∃cs ty,X.w.heap[l.b]? =some (.cells cs ty (0,0)):=by obtain⟨cs,ty,h1,_⟩:=h;exact⟨cs,ty,h1⟩
 have plain:l.inn=[]→∃cs ty,X.w.heap[k]? =some (.cells cs ty (0,0)):=fun hi=>by
  unfold Loc.bs at hk;rw[hi] at hk;simp only[List.filterMap_nil,List.mem_singleton] at hk;rw[hk];exact own
 cases r with
 |box _ _=>exact plain ho
 |data _ _ _=>exact plain ho
 |nest kk xs hh=>
  rcases Loc.bs_mem.1 hk with e|⟨j,p,hj,e⟩
  ·rw[e];exact own
  ·obtain⟨cs,ty,hb,hn,_,_,_,hil,us,_,_,_,_,hel⟩:=h;have hjl:j<xs.length:=by
    rw[←hil];apply Nat.lt_of_not_le;intro hle;rw[gE,List.getElem?_eq_none hle] at hj;cases hj
   obtain⟨v,_,hv⟩:=(hel j xs[j] (gQ hjl)).inn;rw[hj] at hv;cases hh':holeAt hh j with
   |some d=>rw[hh'] at hv;cases hv.1
   |none=>
    rw[hh'] at hv;obtain⟨_,_,_,_,_,_,cs',hb',_⟩:=hv;rw[←e];exact⟨cs',_,hb'⟩
theorem RelRow.lts {X:Ctx} {r:Row} {l:Loc} (h:RelRow X r (some l)) (ho:r.okLoc l):∀k∈l.bs,k<X.w.heap.size:=by
 intro k hk;obtain⟨cs,ty,h⟩:=h.cells ho k hk;exact heap_lt h
theorem relData_le {X Y:Ctx} (h:Le X Y) {e:TypeId} {t:Ty} {xs:List t.El}:∀{o:Option Pl},(∀p,o=some p→Y.w.heap[p.b]? =X.w.heap[p.b]?)→RelData X e t xs o→RelData Y e t xs o
 |none,_,hr=>hr
 |some l,hw,⟨cs,h1,h2,us,h4,h5,h6⟩=>⟨cs,(hw l rfl).trans h1,h2,us,Reps_mono (RelE_mono h.st t) xs us h4,h5,h6⟩
theorem innerOk_le {X Y:Ctx} (h:Le X Y) {e:TypeId} {t:Ty} {xs:List t.El} {o:Option Pl} {v:Value} (hw:∀p,o=some p→Y.w.heap[p.b]? =X.w.heap[p.b]?) (hr:InnerOk X e t xs o v):InnerOk Y e t xs o v:=by
 obtain⟨A,c,h1,h2,h3,h4,h5⟩:=hr;exact⟨A,c,h1,h2,h3,h4,relData_le h hw h5⟩
theorem nestEl_le {X Y:Ctx} (h:Le X Y) {k:NK} {x:k.t.El} {us:List Value} {o:Option Pl} {hh:Option D} (hw:∀p,o=some p→Y.w.heap[p.b]? =X.w.heap[p.b]?) (hr:NestEl X k x us o hh):NestEl Y k x us o hh:=by
 refine⟨fun q c hq hc=> ?_,?_⟩
 ·obtain⟨v,h1,h2⟩:=hr.flat q c hq hc;exact⟨v,h1,h.d h2⟩
 ·obtain⟨v,h1,h2⟩:=hr.inn;refine⟨v,h1,?_⟩;cases hh with
  |none=>exact innerOk_le h hw h2
  |some d=>exact⟨h2.1,h.d h2.2⟩
theorem others_flat {p:Nat}:∀{bs:List Bool} {i q:Nat},othersFlat p i bs=true→q<bs.length→i+q≠p→bs.getD q false=true
 | [],_,q,_,hq,_=>by simp at hq
 |b::bs,i,0,h,_,hne=>by
  simp only[othersFlat,Bool.and_eq_true,Bool.or_eq_true,beq_iff_eq] at h;rcases h.1 with e|e
  ·simpa using e
  ·exact absurd e (by simpa using hne)
 |b::bs,i,q+1,h,hq,hne=>by
  simp only[othersFlat,Bool.and_eq_true] at h;rw[List.getD_cons_succ];exact others_flat h.2 (by simpa using hq) (by omega)
theorem flats_len:∀(t:Ty) (x:t.El),(t.cells x).length=t.flats.length
 | .int _,_| .bool,_| .str,_| .sl _,_| .unit,_=>rfl
 | .prod a b,x=>by
  simp only[Ty.cells,Ty.flats,List.length_append];rw[flats_len a x.1,flats_len b x.2]
theorem cells_plain:∀(t:Ty) (x:t.El) (q:Nat) (c:D),(t.cells x)[q]? =some c→t.flats.getD q false=true→∃a,c= .v a
 | .int k,n,q,c,h,hf=>by
  cases q with
  |zero=>simp only[Ty.cells,List.getElem?_cons_zero,sI] at h;exact⟨_,h.symm⟩
  |succ q=>simp[Ty.cells] at h
 | .bool,n,q,c,h,hf=>by
  cases q with
  |zero=>simp only[Ty.cells,List.getElem?_cons_zero,sI] at h;exact⟨_,h.symm⟩
  |succ q=>simp[Ty.cells] at h
 | .str,n,q,c,h,hf=>by
  cases q with
  |zero=>simp only[Ty.cells,List.getElem?_cons_zero,sI] at h;exact⟨_,h.symm⟩
  |succ q=>simp[Ty.cells] at h
 | .unit,_,q,c,h,hf=>by simp[Ty.cells] at h
 | .sl t,xs,q,c,h,hf=>by
  cases q with
  |zero=>simp[Ty.flats] at hf
  |succ q=>simp[Ty.flats] at hf
 | .prod a b,x,q,c,h,hf=>by
  simp only[Ty.cells] at h;simp only[Ty.flats] at hf;have hl:=flats_len a x.1;by_cases hq:q< (a.cells x.1).length
  ·rw[List.getElem?_append_left hq] at h;rw[gE,List.getElem?_append_left (by omega),←gE] at hf;exact cells_plain a x.1 q c h hf
  ·rw[List.getElem?_append_right (by omega)] at h;rw[gE,List.getElem?_append_right (by omega),←gE,←hl] at hf;exact cells_plain b x.2 _ c h hf
theorem relRow_nest_flat {X Y:Ctx} (hw:Y.w.heap=X.w.heap) {k:NK} {xs:List k.t.El} {p:Option Loc} (hf:flatRow (.nest k xs none)=true) (hr:RelRow X (.nest k xs none) p):RelRow Y (.nest k xs none) p:=by
 simp only[flatRow,Option.isNone_none,Bool.true_and,Bool.and_eq_true] at hf;obtain⟨ho,hu⟩:=hf;cases p with
 |none=>exact hr
 |some l=>
  obtain⟨cs,ty,h1,h2,e1,e2,e3,e4,us,e5,e6,e7,e8,hel⟩:=hr;refine⟨cs,ty,by rw[hw];exact h1,h2,e1,e2,e3,e4,us,e5,e6,e7,e8,fun j x hx=> ?_⟩;have hn:=hel j x hx;refine⟨fun q c hq hc=> ?_,?_⟩
  ·obtain⟨v,k1,k2⟩:=hn.flat q c hq hc;have hql:q<k.t.flats.length:=by
    have:=(List.getElem?_eq_some_iff.1 hc).1;rwa [flats_len] at this
   obtain⟨a,rfl⟩:=cells_plain k.t x q c hc (others_flat ho hql (by omega));exact⟨v,k1,by simpa only[RelD] using k2⟩
  ·obtain⟨v,k1,k2⟩:=hn.inn;refine⟨v,k1,?_⟩;obtain⟨A,c,a1,a2,a3,a4,a5⟩:=k2;refine⟨A,c,a1,a2,a3,a4,?_⟩;cases ho:l.inn.getD j none with
   |none=>rw[ho] at a5;exact a5
   |some m=>
    rw[ho] at a5;obtain⟨ds,b1,b2,vs,b3,b4,b5⟩:=a5;exact⟨ds,by rw[hw];exact b1,b2,vs,Reps_mono (fun x us=>RelE_flat k.u x us hu) _ vs b3,b4,b5⟩
theorem relRow_le {X Y:Ctx} (h:Le X Y) {r:Row}:∀{p:Option Loc},(∀l,p=some l→∀k∈l.bs,Y.w.heap[k]? =X.w.heap[k]?)→RelRow X r p→RelRow Y r p
 |none,_,hr=>by cases r<;>exact hr
 |some l,hw,hr=>by
  obtain⟨cs,ty,h1,h2,h3⟩:=hr;refine⟨cs,ty,(hw l rfl l.b l.b_in).trans h1,h2,?_⟩;cases r with
  |box bt ds=>obtain⟨e,us,e1,h4,h5⟩:=h3;exact⟨e,us,e1,h.ds h4,h5⟩
  |data e t xs=>obtain⟨e1,us,h4,h5,h6⟩:=h3;exact⟨e1,us,Reps_mono (RelE_mono h.st t) xs us h4,h5,h6⟩
  |nest k xs hh=>
   obtain⟨e1,e2,e3,e4,us,e5,e6,e7,e8,hel⟩:=h3;exact⟨e1,e2,e3,e4,us,e5,e6,e7,e8,fun j x hx=>nestEl_le h (fun p hp=>hw l rfl p.b (Loc.bs_mem.2 (.inr ⟨j,p,hp,rfl⟩))) (hel j x hx)⟩
def Content (X:Ctx) (r:Row) (l:Loc) (cs:Array Value) (ty:TypeId):Prop:=
 cs.size=l.n∧match r with
  | .box _ ds=>l.o=0∧∃us,cs=us.toArray∧RelDs X ds us∧∀u,u∈us→u.oneCell'=true
  | .data e t xs=>ty=e∧∃us,Reps (RelE X.S X.w t) xs us∧(∀u,u∈us→u.oneCell'=true)∧l.o+us.length≤l.n∧∀j u,us[j]? =some u→cs[l.o+j]? =some u
  | .nest k xs h=>ty=k.e∧k.ok=true∧l.bs.Nodup∧l.inn.length=xs.length∧∃us:List Value,us.length=xs.length*k.t.size∧(∀u,u∈us→u.oneCell'=true)∧l.o+us.length≤l.n∧(∀j u,us[j]? =some u→cs[l.o+j]? =some u)∧
    ∀j x,xs[j]? =some x→NestEl X k x ((us.drop (j*k.t.size)).take k.t.size) (l.inn.getD j none) (holeAt h j)
theorem Content.le {X Y:Ctx} (h:Le X Y) {r:Row} {l:Loc} {cs:Array Value} {ty:TypeId} (hw:∀j p,l.inn.getD j none=some p→Y.w.heap[p.b]? =X.w.heap[p.b]?) (hc:Content X r l cs ty):Content Y r l cs ty:=by
 obtain⟨h1,h2⟩:=hc;refine⟨h1,?_⟩;cases r with
 |box bt ds=>obtain⟨e,us,e1,h4,h5⟩:=h2;exact⟨e,us,e1,h.ds h4,h5⟩
 |data e t xs=>obtain⟨e1,us,h4,h5,h6⟩:=h2;exact⟨e1,us,Reps_mono (RelE_mono h.st t) xs us h4,h5,h6⟩
 |nest k xs hh=>
  obtain⟨e1,e2,e3,e4,us,e5,e6,e7,e8,hel⟩:=h2;exact⟨e1,e2,e3,e4,us,e5,e6,e7,e8,fun j x hx=>nestEl_le h (fun p hp=>hw j p hp) (hel j x hx)⟩
theorem Content.row {X:Ctx} {r:Row} {l:Loc} {cs:Array Value} {ty:TypeId} (hb:X.w.heap[l.b]? =some (.cells cs ty (0,0))) (hc:Content X r l cs ty):RelRow X r (some l):=⟨cs,ty,hb,hc⟩
theorem Mem.lts {b:Beg} {X:Ctx} (M:Mem b X) {id:Nat} (h:hget X.H id≠none) {l:Loc} (hl:X.ρ id=some l):∀k∈l.bs,k<X.w.heap.size:=by
 cases hr:hget X.H id with
 |none=>exact absurd hr h
 |some r=>
  have h1:=M.rows id r hr;rw[hl] at h1;exact h1.lts (M.ok id r l hr hl)
theorem mem_set {b:Beg} {X:Ctx} (M:Mem b X) {id:Nat} (hlen:id<X.H.length) (r:Row) (l:Loc) (w':World)
  (hid:(slot X.H id= .free∧b.n≤id)∨∃r0,hget X.H id=some r0∧Comp r0 r∧X.pl id=some l.toPl)
  (hos:w'.os=X.w.os) (htape:w'.tape=X.w.tape) (hout:w'.output=X.w.output) (hsz:X.w.heap.size≤w'.heap.size)
  (hother:∀k,k<X.w.heap.size→k≠l.b→w'.heap[k]? =X.w.heap[k]?)
  (hun:∀j p,j≠id→hget X.H j≠none→X.ρ j=some p→∀k∈p.bs,k∉l.bs) (hS:∀k∈l.bs,¬X.S k) (hfr:∀k∈l.bs,b.w.heap.size≤k∨b.B k)
  (hok:r.okLoc l) (hc:Le X (X.put id (.live r) (some l) X.S w')→RelRow (X.put id (.live r) (some l) X.S w') r (some l)):
  Mem b (X.put id (.live r) (some l) X.S w')∧Le X (X.put id (.live r) (some l) X.S w'):=by
 have hle:Le X (X.put id (.live r) (some l) X.S w'):=by
  refine⟨fun k hk=>⟨hk,hother k (M.stab k hk) (fun e=>hS l.b l.b_in (e▸hk))⟩,fun i=> ?_⟩;unfold Pair;by_cases hi:i=id
  ·subst hi;have e:slot (X.put i (.live r) (some l) X.S w').H i= .live r:=by
    show slot (X.H.set i _) i=_;rw[slot_set,if_pos ⟨rfl,hlen⟩]
   rw[e];rcases hid with h|⟨r0,h0,h1,h2⟩
   ·rw[h.1];trivial
   ·rw[hget_live.1 h0];exact⟨h1,by rw[h2];simp[Ctx.pl,Ctx.put]⟩
  ·have e:slot (X.put id (.live r) (some l) X.S w').H i=slot X.H i:=by
    show slot (X.H.set id _) i=_;rw[slot_set,if_neg (fun h=>hi h.1.symm)]
   rw[e];cases hx:slot X.H i<;>simp[Comp.refl,Ctx.put,Ctx.pl,hi]
 have hlive:∀i,hget (X.put id (.live r) (some l) X.S w').H i=if i=id then some r else hget X.H i:=by
  intro i;show hget (X.H.set id _) i=_;rw[hget_set];by_cases hi:i=id
  ·subst hi;simp[hlen]
  ·rw[if_neg (fun h=>hi h.1.symm),if_neg hi]
 refine⟨⟨hos.trans M.os,htape.trans M.tape,hout.trans M.output,Nat.le_trans M.size hsz,?_,?_,?_,?_,?_,?_,?_,M.sub,M.sup,M.glob.le hle.st,?_⟩,hle⟩
 ·intro i j p q hi hj hp hq k hkp hkq;rw[hlive] at hi hj;simp only[Ctx.put] at hp hq;by_cases h1:i=id<;>by_cases h2:j=id
  ·rw[h1,h2]
  ·simp only[h1,if_true,h2,if_false] at hp hq hj;cases hp;exact absurd hkp (hun j q h2 hj hq k hkq)
  ·simp only[h1,if_false,h2,if_true] at hp hq hi;cases hq;exact absurd hkq (hun i p h1 hi hp k hkp)
  ·simp only[h1,if_false,h2] at hp hq hi hj;exact M.inj i j p q hi hj hp hq k hkp hkq
 ·intro i r' hi;rw[hlive] at hi;by_cases h1:i=id
  ·subst h1;simp only[if_true] at hi;cases hi;simp only[Ctx.put,if_true];exact hc hle
  ·simp only[h1,if_false] at hi;have hρ:(X.put id (.live r) (some l) X.S w').ρ i=X.ρ i:=by simp[Ctx.put,h1]
   rw[hρ];refine relRow_le hle (fun p hp k hk=> ?_) (M.rows i r' hi);exact hother k (M.lts (by rw[hi];simp) hp k hk) (fun e=>hun i p h1 (by rw[hi];simp) hp k hk (by rw[e];exact l.b_in))
 ·intro i p hi hp;rw[hlive] at hi;simp only[Ctx.put] at hp⊢;by_cases h1:i=id
  ·simp only[h1,if_true] at hp;cases hp;exact hS
  ·simp only[h1,if_false] at hp hi;exact M.sep i p hi hp
 ·intro k hk;exact Nat.lt_of_lt_of_le (M.stab k hk) hsz
 ·intro k hk hB;refine(hother k (Nat.lt_of_lt_of_le hk M.size) (fun e=> ?_)).trans (M.keep k hk hB);subst e;rcases hfr l.b l.b_in with h|h
  ·omega
  ·exact hB h
 ·intro i p hi hp;rw[hlive] at hi;simp only[Ctx.put] at hp;by_cases h1:i=id
  ·simp only[h1,if_true] at hp;cases hp;exact hfr
  ·simp only[h1,if_false] at hp hi;exact M.fresh i p hi hp
 ·intro i hi hl;rw[hlive] at hl;by_cases h1:i=id
  ·subst h1;rcases hid with h|⟨r0,h0,_,h2⟩
   ·omega
   ·have:=M.old i hi (by rw[h0];simp);rw[←this,h2];simp[Ctx.pl,Ctx.put]
  ·rw[if_neg h1] at hl;have:=M.old i hi hl;rw[←this];simp[Ctx.pl,Ctx.put,h1]
 ·intro i r' p hi hp;rw[hlive] at hi;simp only[Ctx.put] at hp;by_cases h1:i=id
  ·simp only[h1,if_true] at hi hp;cases hi;cases hp;exact hok
  ·simp only[h1,if_false] at hi hp;exact M.ok i r' p hi hp
theorem mem_new {b:Beg} {X:Ctx} (M:Mem b X) {id:Nat} (hf:slot X.H id= .free) (hlen:id<X.H.length) (hn:b.n≤id)
  (r:Row) (l:Loc) (w':World) (hos:w'.os=X.w.os) (htape:w'.tape=X.w.tape) (hout:w'.output=X.w.output) (hsz:X.w.heap.size≤w'.heap.size)
  (hother:∀k,k<X.w.heap.size→k≠l.b→w'.heap[k]? =X.w.heap[k]?) (hin:l.inn=[]) (hok:r.okLoc l)
  (hun:∀j p,hget X.H j≠none→X.ρ j=some p→l.b∉p.bs) (hS:¬X.S l.b) (hfr:b.w.heap.size≤l.b∨b.B l.b)
  (cs:Array Value) (ty:TypeId) (hb:w'.heap[l.b]? =some (.cells cs ty (0,0))) (hc:Content X r l cs ty):
  Mem b (X.put id (.live r) (some l) X.S w')∧Le X (X.put id (.live r) (some l) X.S w'):=by
 have hbs:∀k∈l.bs,k=l.b:=by intro k hk;unfold Loc.bs at hk;rw[hin] at hk;simpa using hk
 exact mem_set M hlen r l w' (.inl ⟨hf,hn⟩) hos htape hout hsz hother (fun j p _ hj hp k hk hk2=>hun j p hj hp (hbs k hk2▸hk)) (fun k hk=>by rw[hbs k hk];exact hS) (fun k hk=>by rw[hbs k hk];exact hfr) hok
  (fun hle=>(hc.le hle (fun j p hp=>by rw[hin] at hp;simp at hp)).row hb)
theorem heap_old (w:World) (o:Obj) (k:Nat) (h:k<w.heap.size):(w.alloc o).heap[k]? =w.heap[k]? :=by
 show(w.heap.push o)[k]? =_;rw[Array.getElem?_push,if_neg (by omega)]
theorem heap_new (w:World) (o:Obj):(w.alloc o).heap[w.heap.size]? =some o:=by
 show(w.heap.push o)[w.heap.size]? =_;simp
theorem mem_alloc {b:Beg} {X:Ctx} (M:Mem b X) {id:Nat} (hf:slot X.H id= .free) (hlen:id<X.H.length) (hn:b.n≤id)
  (r:Row) (cs:Array Value) (ty:TypeId) (hok:r.okLoc (.of X.w.heap.size 0 cs.size)) (hc:Content X r (.of X.w.heap.size 0 cs.size) cs ty):
  Mem b (X.put id (.live r) (some (.of X.w.heap.size 0 cs.size)) X.S (X.w.alloc (.cells cs ty)))∧
   Le X (X.put id (.live r) (some (.of X.w.heap.size 0 cs.size)) X.S (X.w.alloc (.cells cs ty))):=by
 refine mem_new M hf hlen hn r _ _ rfl rfl rfl (by simp) (fun k hk _=>heap_old _ _ _ hk) rfl hok (fun j p hj hp e=> ?_) (fun h=> ?_) (.inl M.size) cs ty (heap_new _ _) hc
 ·have:=M.lts hj hp _ e;simp at this
 ·have:=M.stab _ h;simp at this
theorem mem_virt' {b:Beg} {X:Ctx} (M:Mem b X) {id:Nat} (hf:slot X.H id= .free) (hlen:id<X.H.length) (hn:b.n≤id) (r:Row) (hr:∀Y,RelRow Y r none):
  Mem b (X.put id (.live r) none X.S X.w)∧Le X (X.put id (.live r) none X.S X.w):=by
 have hle:Le X (X.put id (.live r) none X.S X.w):=by
  refine⟨fun k hk=>⟨hk,rfl⟩,fun i=> ?_⟩;unfold Pair;by_cases hi:i=id
  ·subst hi;rw[hf];trivial
  ·have e:slot (X.put id (.live r) none X.S X.w).H i=slot X.H i:=by
    show slot (X.H.set id _) i=_;rw[slot_set,if_neg (fun h=>hi h.1.symm)]
   rw[e];cases hx:slot X.H i<;>simp[Comp.refl,Ctx.put,Ctx.pl,hi]
 have hlive:∀i,hget (X.put id (.live r) none X.S X.w).H i=if i=id then some r else hget X.H i:=by
  intro i;show hget (X.H.set id _) i=_;rw[hget_set];by_cases hi:i=id
  ·subst hi;simp[hlen]
  ·rw[if_neg (fun h=>hi h.1.symm),if_neg hi]
 refine⟨⟨M.os,M.tape,M.output,M.size,?_,?_,?_,M.stab,M.keep,?_,?_,M.sub,M.sup,M.glob.le hle.st,?_⟩,hle⟩
 ·intro i j p q hi hj hp hq k hkp hkq;rw[hlive] at hi hj;simp only[Ctx.put] at hp hq;by_cases h1:i=id
  ·simp only[h1,if_true] at hp;cases hp
  ·by_cases h2:j=id
   ·simp only[h2,if_true] at hq;cases hq
   ·simp only[h1,if_false,h2] at hp hq hi hj;exact M.inj i j p q hi hj hp hq k hkp hkq
 ·intro i r' hi;rw[hlive] at hi;simp only[Ctx.put];by_cases h1:i=id
  ·simp only[h1,if_true] at hi⊢;cases hi;exact hr _
  ·simp only[h1,if_false] at hi⊢;exact relRow_le hle (fun p hp k hk=>rfl) (M.rows i r' hi)
 ·intro i p hi hp;rw[hlive] at hi;simp only[Ctx.put] at hp⊢;by_cases h1:i=id
  ·simp only[h1,if_true] at hp;cases hp
  ·simp only[h1,if_false] at hp hi;exact M.sep i p hi hp
 ·intro i p hi hp;rw[hlive] at hi;simp only[Ctx.put] at hp;by_cases h1:i=id
  ·simp only[h1,if_true] at hp;cases hp
  ·simp only[h1,if_false] at hp hi;exact M.fresh i p hi hp
 ·intro i hi hl;rw[hlive] at hl;have h1:i≠id:=by omega
  simp only[h1,if_false] at hl;rw[←M.old i hi hl];simp[Ctx.pl,Ctx.put,h1]
 ·intro i r' p hi hp;rw[hlive] at hi;simp only[Ctx.put] at hp;by_cases h1:i=id
  ·simp only[h1,if_true] at hp;cases hp
  ·simp only[h1,if_false] at hi hp;exact M.ok i r' p hi hp
theorem mem_virt {b:Beg} {X:Ctx} (M:Mem b X) {id:Nat} (hf:slot X.H id= .free) (hlen:id<X.H.length) (hn:b.n≤id) (e:TypeId) (t:Ty):
  Mem b (X.put id (.live (.data e t [])) none X.S X.w)∧Le X (X.put id (.live (.data e t [])) none X.S X.w):=mem_virt' M hf hlen hn _ fun _=>rfl
theorem no_inn {l:Loc} (h:l.inn=[]):∀j p,l.inn.getD j none=some p→p.b≠l.b:=fun j p hp=>by rw[h] at hp;simp at hp
theorem mem_write {b:Beg} {X:Ctx} (M:Mem b X) {id:Nat} {r0:Row} (h0:hget X.H id=some r0) {l:Loc} (hl:X.ρ id=some l) (r:Row) (hcomp:Comp r0 r) (hok:r.okLoc l)
  (w':World) (hos:w'.os=X.w.os) (htape:w'.tape=X.w.tape) (hout:w'.output=X.w.output) (hsz:w'.heap.size=X.w.heap.size)
  (hother:∀k,k≠l.b→w'.heap[k]? =X.w.heap[k]?) (hnd:∀j p,l.inn.getD j none=some p→p.b≠l.b)
  (cs:Array Value) (ty:TypeId) (hb:w'.heap[l.b]? =some (.cells cs ty (0,0))) (hc:Content X r l cs ty):
  Mem b (X.put id (.live r) (some l) X.S w')∧Le X (X.put id (.live r) (some l) X.S w'):=by
 have hne:hget X.H id≠none:=by rw[h0];simp
 refine mem_set M (lt_of_slot (by rw[hget_live.1 h0];simp)) r l w' (.inr ⟨r0,h0,hcomp,Ctx.pl_of hl⟩) hos htape hout (by omega) (fun k _ h=>hother k h) (fun j p hj hj1 hp k hk hk2=>hj (M.inj j id p l hj1 hne hp hl k hk hk2)) (M.sep id l hne hl) (M.fresh id l hne hl) hok
  (fun hle=>(hc.le hle (fun j p hp=>hother p.b (fun e=>hnd j p hp e))).row hb)
theorem mem_kill {b:Beg} {X:Ctx} (M:Mem b X) {id:Nat} {r0:Row} (h0:hget X.H id=some r0) (S':Nat→Prop)
  (hS1:∀k,X.S k→S' k) (hS2:∀k,S' k→X.S k∨∃l,X.ρ id=some l∧k∈l.bs):
  Mem b (X.put id .dead (X.ρ id) S' X.w)∧Le X (X.put id .dead (X.ρ id) S' X.w):=by
 have hs0:slot X.H id= .live r0:=hget_live.1 h0;have hlen:id<X.H.length:=lt_of_slot (by rw[hs0];simp);have hle:Le X (X.put id .dead (X.ρ id) S' X.w):=by
  refine⟨fun k hk=>⟨hS1 k hk,rfl⟩,fun i=> ?_⟩;unfold Pair;by_cases hi:i=id
  ·subst hi;have e:slot (X.put i .dead (X.ρ i) S' X.w).H i= .dead:=by
    show slot (X.H.set i _) i=_;rw[slot_set,if_pos ⟨rfl,hlen⟩]
   rw[e,hs0];trivial
  ·have e:slot (X.put id .dead (X.ρ id) S' X.w).H i=slot X.H i:=by
    show slot (X.H.set id _) i=_;rw[slot_set,if_neg (fun h=>hi h.1.symm)]
   rw[e];cases hx:slot X.H i<;>simp[Comp.refl,Ctx.put,Ctx.pl,hi]
 have hlive:∀i,hget (X.put id .dead (X.ρ id) S' X.w).H i=if i=id then none else hget X.H i:=by
  intro i;show hget (X.H.set id _) i=_;rw[hget_set];by_cases hi:i=id
  ·subst hi;simp[hlen]
  ·rw[if_neg (fun h=>hi h.1.symm),if_neg hi]
 have hne:∀i,hget (X.put id .dead (X.ρ id) S' X.w).H i≠none→i≠id∧hget X.H i≠none:=by
  intro i hi;rw[hlive] at hi;by_cases h1:i=id
  ·rw[if_pos h1] at hi;exact absurd rfl hi
  ·rw[if_neg h1] at hi;exact⟨h1,hi⟩
 have hρ:∀i,(X.put id .dead (X.ρ id) S' X.w).ρ i=X.ρ i:=by
  intro i;simp only[Ctx.put];by_cases h1:i=id
  ·rw[if_pos h1,h1]
  ·rw[if_neg h1]
 have h0':hget X.H id≠none:=by rw[h0];simp
 refine⟨⟨M.os,M.tape,M.output,M.size,?_,?_,?_,?_,M.keep,?_,?_,fun k hk=>hS1 k (M.sub k hk),?_,M.glob.le hle.st,?_⟩,hle⟩
 ·intro i j p q hi hj hp hq k hkp hkq;rw[hρ] at hp hq;exact M.inj i j p q (hne i hi).2 (hne j hj).2 hp hq k hkp hkq
 ·intro i r' hi;rw[hρ];have hi':=(hne i (by rw[hi];simp)).1;rw[hlive,if_neg hi'] at hi;exact relRow_le hle (fun p hp k hk=>rfl) (M.rows i r' hi)
 ·intro i p hi hp k hk hS;rw[hρ] at hp;have hi':=hne i hi;rcases hS2 _ hS with h|⟨l,hl,e⟩
  ·exact M.sep i p hi'.2 hp k hk h
  ·exact hi'.1 (M.inj i id p l hi'.2 h0' hp hl k hk e)
 ·intro k hk;rcases hS2 k hk with h|⟨l,hl,e⟩
  ·exact M.stab k h
  ·exact M.lts h0' hl k e
 ·intro i p hi hp;rw[hρ] at hp;exact M.fresh i p (hne i hi).2 hp
 ·intro i hi hl';rw[←M.old i hi (hne i hl').2];unfold Ctx.pl;rw[hρ]
 ·intro k hk;rcases hS2 k hk with h|⟨l,hl,e⟩
  ·exact M.sup k h
  ·exact .inr (M.fresh id l h0' hl k e)
 ·intro i r' p hi hp;rw[hρ] at hp;have hi':=(hne i (by rw[hi];simp)).1;rw[hlive,if_neg hi'] at hi;exact M.ok i r' p hi hp
theorem mem_drew {b:Beg} {X:Ctx} (M:Mem b X) (n:Nat) (hn:n=X.w.drawn+1):Mem b ⟨X.ρ,X.H,X.S,X.w.drew⟩∧Le X ⟨X.ρ,X.H,X.S,X.w.drew⟩:=by
 have hle:Le X ⟨X.ρ,X.H,X.S,X.w.drew⟩:=⟨fun k hk=>⟨hk,rfl⟩,fun i=>Pair.trans (Pair.self X i) (Pair.self X i)⟩;exact⟨⟨M.os,M.tape,M.output,M.size,M.inj,fun i r hi=>relRow_le hle (fun _ _ _ _=>rfl) (M.rows i r hi),M.sep,M.stab,M.keep,M.fresh,M.old,M.sub,M.sup,M.glob.le hle.st,M.ok⟩,hle⟩
section
variable {X:Ctx}
theorem relDs_length:∀{ds:List D} {us:List Value},RelDs X ds us→us.length=ds.length
 | [],us,h=>by simp only[RelDs] at h;rw[h];rfl
 |d::ds,us,h=>by
  simp only[RelDs] at h;obtain⟨u,us',e,_,h2⟩:=h;rw[e,List.length_cons,relDs_length h2,List.length_cons]
theorem relDs_append:∀{a b:List D} {us:List Value},RelDs X (a++b) us↔∃u1 u2,us=u1++u2∧RelDs X a u1∧RelDs X b u2
 | [],b,us=>by
  constructor
  ·intro h;exact⟨[],us,rfl,by simp only[RelDs],h⟩
  ·rintro⟨u1,u2,e,h1,h2⟩
   simp only[RelDs] at h1;subst h1;rw[e];exact h2
 |d::a,b,us=>by
  constructor
  ·intro h;simp only[List.cons_append,RelDs] at h;obtain⟨u,us',e,h1,h2⟩:=h;obtain⟨u1,u2,e2,h3,h4⟩:=relDs_append.1 h2;exact⟨u::u1,u2,by rw[e,e2];rfl,by simp only[RelDs];exact⟨u,u1,rfl,h1,h3⟩,h4⟩
  ·rintro⟨u1,u2,e,h1,h2⟩
   simp only[RelDs] at h1;obtain⟨u,us',e1,h3,h4⟩:=h1;simp only[List.cons_append,RelDs];exact⟨u,us'++u2,by rw[e,e1];rfl,h3,relDs_append.2 ⟨us',u2,rfl,h4,h2⟩⟩
theorem relDs_take:∀(n:Nat) {ds:List D} {us:List Value},RelDs X ds us→RelDs X (ds.take n) (us.take n)
 |0,ds,us,_=>by simp only[List.take_zero,RelDs]
 |n+1,[],us,h=>by simp only[RelDs] at h;subst h;simp only[List.take_nil,RelDs]
 |n+1,d::ds,us,h=>by
  simp only[RelDs] at h;obtain⟨u,us',e,h1,h2⟩:=h;subst e;simp only[List.take_succ_cons,RelDs];exact⟨u,_,rfl,h1,relDs_take n h2⟩
theorem relDs_drop:∀(n:Nat) {ds:List D} {us:List Value},RelDs X ds us→RelDs X (ds.drop n) (us.drop n)
 |0,ds,us,h=>by simpa only[List.drop_zero] using h
 |n+1,[],us,h=>by simp only[RelDs] at h;subst h;simp only[List.drop_nil,RelDs]
 |n+1,d::ds,us,h=>by
  simp only[RelDs] at h;obtain⟨u,us',e,h1,h2⟩:=h;subst e;simp only[List.drop_succ_cons];exact relDs_drop n h2
theorem relDs_get:∀{ds:List D} {us:List Value} {i:Nat} {d:D},RelDs X ds us→ds[i]? =some d→∃u,us[i]? =some u∧RelD X d u
 | [],us,i,d,_,hd=>by simp at hd
 |e::ds,us,0,d,h,hd=>by
  simp only[RelDs] at h;obtain⟨u,us',e1,h1,h2⟩:=h;simp at hd;subst hd;exact⟨u,by rw[e1];rfl,h1⟩
 |e::ds,us,i+1,d,h,hd=>by
  simp only[RelDs] at h;obtain⟨u,us',e1,h1,h2⟩:=h;simp at hd;obtain⟨v,hv,hr⟩:=relDs_get h2 hd;exact⟨v,by rw[e1];simpa using hv,hr⟩
theorem relDs_one {d:D} {us:List Value}:RelDs X [d] us↔∃u,us=[u]∧RelD X d u:=by
 simp only[RelDs];constructor
 ·rintro⟨u,us',e,h1,h2⟩;exact⟨u,by rw[e,h2],h1⟩
 ·rintro⟨u,e,h⟩;exact⟨u,[],e,h,rfl⟩
theorem relDs_v:∀(us:List Value),RelDs X (us.map .v) us
 | []=>by simp only[List.map_nil,RelDs]
 |u::us=>by
  simp only[List.map_cons,RelDs];exact⟨u,us,rfl,by simp only[RelD],relDs_v us⟩
theorem relDs_map {α:Type} {f:α→D} {g:α→Value}:∀(l:List α),(∀x∈l,RelD X (f x) (g x))→RelDs X (l.map f) (l.map g)
 | [],_=>by simp only[List.map_nil,RelDs]
 |x::l,h=>by
  simp only[List.map_cons,RelDs];exact⟨g x,l.map g,rfl,h x (by simp),relDs_map l (fun y hy=>h y (by simp[hy]))⟩
theorem cell_one {d:D} {u:Value} (hc:cellB d=true) (h:RelD X d u):u.oneCell'=true∧u.cells= #[u]:=by
 cases d with
 |v x=>
  simp only[RelD] at h;subst h;cases u<;>simp[cellB,Value.oneCell',Value.cells] at hc⊢
 |sl nn cl t xs=>simp only[RelD] at h;obtain⟨A,c,us,e,_⟩:=h;subst e;exact⟨rfl,rfl⟩
 |arr t xs=>simp[cellB] at hc
 |own id off len cap=>
  simp only[RelD] at h;cases hs:slot X.H id with
  |free=>rw[hs] at h;exact h.elim
  |dead=>rw[hs] at h;obtain⟨A,c,e,_⟩:=h;subst e;exact⟨rfl,rfl⟩
  |live r=>
   rw[hs] at h;simp only at h;cases hd:r.dims with
   |none=>rw[hd] at h;exact h.elim
   |some p=>rw[hd] at h;obtain⟨_,A,c,e,_⟩:=h;subst e;exact⟨rfl,rfl⟩
 |ptr id i off=>
  simp only[RelD] at h;cases hs:slot X.H id with
  |free=>rw[hs] at h;exact h.elim
  |dead=>rw[hs] at h;obtain⟨p,e⟩:=h;subst e;exact⟨rfl,rfl⟩
  |live r=>rw[hs] at h;obtain⟨l,_,e⟩:=h;subst e;exact⟨rfl,rfl⟩
 |bsl id len sz=>
  simp only[RelD] at h;cases hs:slot X.H id with
  |free=>rw[hs] at h;exact h.elim
  |dead=>rw[hs] at h;obtain⟨p,e⟩:=h;subst e;exact⟨rfl,rfl⟩
  |live r=>
   rw[hs] at h;cases r with
   |data _ _ _=>exact h.elim
   |nest _ _ _=>exact h.elim
   |box _ _=>obtain⟨l,_,e⟩:=h;subst e;exact⟨rfl,rfl⟩
 |lenv n=>simp only[RelD] at h;obtain⟨A,c,e⟩:=h;subst e;exact⟨rfl,rfl⟩
 |rptr cs=>simp only[RelD] at h;obtain⟨a,us,e,_⟩:=h;subst e;exact⟨rfl,rfl⟩
 |agg cs=>simp[cellB] at hc
 |fn f cs=>simp only[RelD] at h;obtain⟨us,e,_⟩:=h;subst e;exact⟨rfl,rfl⟩
 |tup cs=>simp[cellB] at hc
 |top=>simp[cellB] at hc
theorem cells_all_one:∀{ds:List D} {us:List Value},ds.all cellB=true→RelDs X ds us→∀u,u∈us→u.oneCell'=true
 | [],us,_,h,u,hu=>by simp only[RelDs] at h;subst h;simp at hu
 |d::ds,us,ha,h,u,hu=>by
  simp only[RelDs] at h;obtain⟨v,us',e,h1,h2⟩:=h;simp only[List.all_cons,Bool.and_eq_true] at ha;subst e;rcases List.mem_cons.1 hu with hu|hu
  ·subst hu;exact(cell_one ha.1 h1).1
  ·exact cells_all_one ha.2 h2 u hu
theorem cellsOf_rel {d:D} {cs:List D} {u:Value} (hc:cellsOf d=some cs) (h:RelD X d u):RelDs X cs u.cells.toList∧cs.all cellB=true:=by
 unfold cellsOf at hc;split at hc
 ·rename_i cs';split at hc
  ·rename_i ha;simp only[sI] at hc;subst hc;simp only[RelD] at h;obtain⟨us,e,h1⟩:=h;subst e;exact⟨by simpa [Value.cells] using h1,ha⟩
  ·cases hc
 ·split at hc
  ·rename_i hb;simp only[sI] at hc;subst hc;refine⟨?_,by simp[hb]⟩;rw[(cell_one hb h).2];exact relDs_one.2 ⟨u,rfl,h⟩
  ·cases hc
end
section
variable {α:Type} {R:α→List Value→Prop}
theorem Reps.length {n:Nat} (hR:∀x us,R x us→us.length=n):∀{xs:List α} {us:List Value},Reps R xs us→us.length=xs.length*n
 | [],us,h=>by simp only[Reps] at h;subst h;simp
 |x::xs,us,h=>by
  obtain⟨u1,u2,e,h1,h2⟩:=h;rw[e,List.length_append,hR x u1 h1,Reps.length hR h2,List.length_cons,Nat.add_mul,Nat.one_mul,Nat.add_comm]
theorem Reps.append:∀{xs ys:List α} {us vs:List Value},Reps R xs us→Reps R ys vs→Reps R (xs++ys) (us++vs)
 | [],ys,us,vs,h,k=>by simp only[Reps] at h;subst h;exact k
 |x::xs,ys,us,vs,h,k=>by
  obtain⟨u1,u2,e,h1,h2⟩:=h;exact⟨u1,u2++vs,by rw[e,List.append_assoc],h1,Reps.append h2 k⟩
theorem Reps.drop {n:Nat} (hR:∀x us,R x us→us.length=n):∀(k:Nat) {xs:List α} {us:List Value},Reps R xs us→Reps R (xs.drop k) (us.drop (k*n))
 |0,xs,us,h=>by simpa using h
 |k+1,[],us,h=>by simp only[Reps] at h;subst h;simp[Reps]
 |k+1,x::xs,us,h=>by
  obtain⟨u1,u2,e,h1,h2⟩:=h;have hl:=hR x u1 h1;have:=Reps.drop hR k h2;rw[List.drop_succ_cons,e];have e2:(u1++u2).drop ((k+1)*n)=u2.drop (k*n):=by
   rw[Nat.add_mul,Nat.one_mul,Nat.add_comm,←List.drop_drop,←hl,List.drop_left]
  rw[e2];exact this
theorem Reps.take {n:Nat} (hR:∀x us,R x us→us.length=n):∀(k:Nat) {xs:List α} {us:List Value},Reps R xs us→Reps R (xs.take k) (us.take (k*n))
 |0,xs,us,h=>by simp[Reps]
 |k+1,[],us,h=>by simp only[Reps] at h;subst h;simp[Reps]
 |k+1,x::xs,us,h=>by
  obtain⟨u1,u2,e,h1,h2⟩:=h;have hl:=hR x u1 h1;have:=Reps.take hR k h2;rw[List.take_succ_cons,e];have e2:(u1++u2).take ((k+1)*n)=u1++u2.take (k*n):=by
   rw[Nat.add_mul,Nat.one_mul,Nat.add_comm,List.take_append,hl];congr 1
   ·rw[List.take_of_length_le (by omega)]
   ·congr 1;omega
  rw[e2];exact⟨u1,_,rfl,h1,this⟩
theorem Reps.get {n:Nat} (hR:∀x us,R x us→us.length=n):∀{i:Nat} {x:α} {xs:List α} {us:List Value},Reps R xs us→xs[i]? =some x→R x ((us.drop (i*n)).take n)
 |_,_,[],us,h,hx=>by simp at hx
 |0,x,y::xs,us,h,hx=>by
  obtain⟨u1,u2,e,h1,h2⟩:=h;simp at hx;subst hx;have hl:=hR y u1 h1;rw[e,Nat.zero_mul,List.drop_zero,←hl,List.take_left];exact h1
 |i+1,x,y::xs,us,h,hx=>by
  obtain⟨u1,u2,e,h1,h2⟩:=h;simp at hx;have hl:=hR y u1 h1;have:=Reps.get hR h2 hx;have e2:us.drop ((i+1)*n)=u2.drop (i*n):=by
   rw[e,Nat.add_mul,Nat.one_mul,Nat.add_comm,←List.drop_drop,←hl,List.drop_left]
  rw[e2];exact this
theorem reps_of_get {n:Nat} (hR:∀x us,R x us→us.length=n):∀{xs:List α} {us:List Value},us.length=xs.length*n→(∀j x,xs[j]? =some x→R x ((us.drop (j*n)).take n))→Reps R xs us
 | [],us,hl,_=>by simp at hl;subst hl;rfl
 |x::xs,us,hl,h=>by
  refine⟨us.take n,us.drop n,(List.take_append_drop n us).symm,by simpa using h 0 x rfl,reps_of_get hR ?_ fun j y hy=> ?_⟩
  ·simp only[List.length_cons,Nat.add_mul,Nat.one_mul] at hl;simp;omega
  ·have:=h (j+1) y (by simpa using hy);rwa [Nat.add_mul,Nat.one_mul,Nat.add_comm,←List.drop_drop] at this
theorem Reps.replicate {x:α} {u:List Value} (h:R x u):∀n,Reps R (List.replicate n x) (List.replicate n u).flatten
 |0=>by simp[Reps]
 |n+1=>by
  simp only[List.replicate_succ,List.flatten_cons];exact⟨u,_,rfl,h,Reps.replicate h n⟩
theorem Reps.set {n:Nat} (hR:∀x us,R x us→us.length=n):∀{i:Nat} {y:α} {v:List Value} {xs:List α} {us:List Value},Reps R xs us→i<xs.length→R y v→
  Reps R (xs.set i y) (us.take (i*n)++v++us.drop (i*n+n))
 |_,_,_,[],us,h,hi,_=>by simp at hi
 |0,y,v,x::xs,us,h,hi,hy=>by
  obtain⟨u1,u2,e,h1,h2⟩:=h;have hl:=hR x u1 h1;simp only[List.set_cons_zero,Nat.zero_mul,List.take_zero,List.nil_append,Nat.zero_add];rw[e,←hl,List.drop_left];exact⟨v,u2,rfl,hy,h2⟩
 |i+1,y,v,x::xs,us,h,hi,hy=>by
  obtain⟨u1,u2,e,h1,h2⟩:=h;have hl:=hR x u1 h1;have:=Reps.set hR h2 (by simpa using hi) hy;simp only[List.set_cons_succ];refine⟨u1,_,?_,h1,this⟩;rw[e];have e1:(u1++u2).take ((i+1)*n)=u1++u2.take (i*n):=by
   rw[Nat.add_mul,Nat.one_mul,Nat.add_comm,List.take_append,hl];congr 1
   ·rw[List.take_of_length_le (by omega)]
   ·congr 1;omega
  have e2:(u1++u2).drop ((i+1)*n+n)=u2.drop (i*n+n):=by
   have:(i+1)*n+n=u1.length+(i*n+n):=by rw[hl,Nat.add_mul,Nat.one_mul];omega
   rw[this,←List.drop_drop,List.drop_left]
  rw[e1,e2,List.append_assoc,List.append_assoc,List.append_assoc]
end
theorem reps_length {S:Nat→Prop} {w:World} {t:Ty} {xs:List t.El} {us:List Value} (h:Reps (RelE S w t) xs us):us.length=xs.length*t.size:=h.length (RelE_length t)
theorem relE_cells (X:Ctx):∀(t:Ty) (x:t.El) (us:List Value),RelE X.S X.w t x us→RelDs X (t.cells x) us
 | .int k,n,us,h=>by rw[h];exact relDs_one.2 ⟨_,rfl,by simp only[RelD]⟩
 | .bool,b,us,h=>by rw[h];exact relDs_one.2 ⟨_,rfl,by simp only[RelD]⟩
 | .str,s,us,h=>by rw[h];exact relDs_one.2 ⟨_,rfl,by simp only[RelD]⟩
 | .sl t,xs,us,⟨A,c,us',e,h1,h2,h3,h4⟩=>by
  rw[e];refine relDs_one.2 ⟨_,rfl,?_⟩;simp only[RelD];exact⟨A,c,us',rfl,h1,h2,by simp,by simp,h3,h4⟩
 | .prod a b,x,us,⟨u1,u2,e,h1,h2⟩=>relDs_append.2 ⟨u1,u2,e,relE_cells X a x.1 u1 h1,relE_cells X b x.2 u2 h2⟩
 | .unit,_,us,h=>by rw[h];simp only[Ty.cells,RelDs]
theorem ty_cells_length:∀(t:Ty) (x:t.El),(t.cells x).length=t.size
 | .int _,_| .bool,_| .str,_| .sl _,_| .unit,_=>rfl
 | .prod a b,x=>by simp only[Ty.cells,List.length_append,ty_cells_length a,ty_cells_length b,Ty.size]
theorem rdOf_some {H:Heap} {forb:List Nat} {id:Nat} {r:Row} (h:rdOf H forb id=some r):hget H id=some r:=by
 unfold rdOf at h;split at h
 ·cases h
 ·exact h
theorem own_data {b:Beg} {X:Ctx} (M:Mem b X) {S':Nat→Prop} (hS:∀k,X.S k→S' k) {id off len:Nat} {cap:Option Nat} {e:TypeId} {t:Ty} {xs:List t.El} {u:Value}
  (hr:hget X.H id=some (.data e t xs)) (hk:∀l,X.ρ id=some l→∀k∈l.bs,S' k) (h:RelD X (.own id off len cap) u):
  ∃A c us',u= .slice A ((xs.drop off).take len).length c∧((xs.drop off).take len).length≤c∧(A=none→c=0)∧Reps (RelE X.S X.w t) ((xs.drop off).take len) us'∧At S' X.w A us'∧(∀v,v∈us'→v.oneCell'=true):=by
 simp only[RelD] at h;rw[hget_live.1 hr] at h;obtain⟨hlen,A,c,e1,hc,hA,_,_,hplace⟩:=h;have hl:((xs.drop off).take len).length=len:=by simp;omega
 rw[hl];by_cases hc0:c=0
 ·have h0:len=0:=by omega
  subst h0;refine⟨A,c,[],e1,hc,hA,?_,fun j u hj=>by simp at hj,by simp⟩;simp[Reps]
 ·obtain⟨l',hl0,hl2,hl3⟩:=hplace.resolve_left hc0;obtain⟨l,hl1,rfl⟩:=Ctx.pl_some hl0;have hrow:=M.rows id _ hr;rw[hl1] at hrow;obtain⟨cs,ty,hb,hn,hty,us,hreps,hone,_,hcs⟩:=hrow;refine⟨A,c,(us.drop (off*t.size)).take (len*t.size),e1,hc,hA,?_,?_,?_⟩
  ·exact(hreps.drop (RelE_length t) off).take (RelE_length t) len
  ·intro j u hj;have hj':us[off*t.size+j]? =some u:=by
    rw[List.getElem?_take] at hj;split at hj
    ·rwa [List.getElem?_drop] at hj
    ·cases hj
   refine⟨_,hl2,hk l hl1 l.b l.b_in,?_⟩;rw[add_plain,cell_of_row _ _ _ _ _ _ hb];have:=hcs _ _ hj';rwa [Nat.add_assoc]
  ·intro v hv;exact hone v (List.mem_of_mem_drop (List.mem_of_mem_take hv))
theorem mem_killIds:∀{cs:List D} {id:Nat},id∈killIds cs↔∃off len cap,D.own id off len cap∈cs
 | [],id=>by simp[killIds]
 |d::cs,id=>by
  have ih:=mem_killIds (cs:=cs) (id:=id);cases d<;>simp[killIds,ih]
  constructor
  ·rintro(h|⟨off,len,cap,h⟩)
   ·subst h;exact⟨_,_,_,.inl ⟨rfl,rfl,rfl,rfl⟩⟩
   ·exact⟨off,len,cap,.inr h⟩
  ·rintro⟨off,len,cap,h|h⟩
   ·exact .inl h.1
   ·exact .inr ⟨off,len,cap,h⟩
theorem killIds_take {cs:List D} {n id:Nat} (h:id∈killIds (cs.take n)):id∈killIds cs:=by
 rw[mem_killIds] at h⊢;obtain⟨o,l,c,h⟩:=h;exact⟨o,l,c,List.mem_of_mem_take h⟩
theorem killIds_drop {cs:List D} {n id:Nat} (h:id∈killIds (cs.drop n)):id∈killIds cs:=by
 rw[mem_killIds] at h⊢;obtain⟨o,l,c,h⟩:=h;exact⟨o,l,c,List.mem_of_mem_drop h⟩
theorem killIds_split {cs:List D} {n id:Nat} (h:id∈killIds cs):id∈killIds (cs.take n)∨id∈killIds (cs.drop n):=by
 rw[mem_killIds] at h;obtain⟨o,l,c,h⟩:=h;rw[←List.take_append_drop n cs] at h;rcases List.mem_append.1 h with h|h
 ·exact .inl (mem_killIds.2 ⟨o,l,c,h⟩)
 ·exact .inr (mem_killIds.2 ⟨o,l,c,h⟩)
theorem rowData_some {rd:Nat→Option Row} {id off len:Nat} {t:Ty} {x:List t.El} (h:rowData rd id off len t=some x):
  (∃e xs,rd id=some (.data e t xs)∧x=(xs.drop off).take len)∨∃k xs,rd id=some (.nest k xs none)∧∃e:k.t=t,x=((e▸xs:List t.El).drop off).take len:=by
 unfold rowData at h;split at h
 ·rename_i e t' xs hr;split at h
  ·rename_i ht;subst ht;simp only[sI] at h;exact .inl ⟨e,xs,hr,h.symm⟩
  ·cases h
 ·rename_i k xs hr;split at h
  ·rename_i ht;simp only[sI] at h;exact .inr ⟨k,xs,hr,ht,h.symm⟩
  ·cases h
 ·cases h
theorem relDs_of_get {X:Ctx}:∀{ds:List D} {us:List Value},ds.length=us.length→(∀(i:Nat) (d:D) (u:Value),ds[i]? =some d→us[i]? =some u→RelD X d u)→RelDs X ds us
 | [],[],_,_=>by simp only[RelDs]
 |d::ds,u::us,hl,h=>by
  simp only[RelDs];exact⟨u,us,rfl,h 0 d u rfl rfl,relDs_of_get (by simpa using hl) fun i d' u' h1 h2=>h (i+1) d' u' (by simpa using h1) (by simpa using h2)⟩
 | [],_::_,hl,_=>by simp at hl
 |_::_,[],hl,_=>by simp at hl
theorem relE_of_cells (X:Ctx):∀(t:Ty) (x:t.El) (us:List Value),RelDs X (t.cells x) us→RelE X.S X.w t x us
 | .int k,n,us,h=>by obtain⟨u,e,h1⟩:=relDs_one.1 h;simp only[RelD] at h1;subst h1;exact e
 | .bool,b,us,h=>by obtain⟨u,e,h1⟩:=relDs_one.1 h;simp only[RelD] at h1;subst h1;exact e
 | .str,s,us,h=>by obtain⟨u,e,h1⟩:=relDs_one.1 h;simp only[RelD] at h1;subst h1;exact e
 | .sl t,xs,us,h=>by
  obtain⟨u,e,h1⟩:=relDs_one.1 h;simp only[RelD] at h1;obtain⟨A,c,us',rfl,h2,h3,_,_,h4,h5⟩:=h1;exact⟨A,c,us',e,h2,h3,h4,h5⟩
 | .prod a b,x,us,h=>by
  obtain⟨u1,u2,e,h1,h2⟩:=relDs_append.1 h;exact⟨u1,u2,e,relE_of_cells X a x.1 u1 h1,relE_of_cells X b x.2 u2 h2⟩
 | .unit,_,us,h=>by simp only[Ty.cells,RelDs] at h;exact h
theorem cells_getP:∀(t:Ty) (x:t.El) {p:Nat} {u:Ty},t.atP p=some u→(t.cells x)[p]? =some (.sl false false u (t.getP x p u))
 | .sl t,xs,p,u,h=>by
  simp only[Ty.atP] at h;split at h
  ·rename_i hp;simp only[sI] at h;subst h;subst hp;simp[Ty.cells,Ty.getP]
  ·cases h
 | .prod a b,x,p,u,h=>by
  simp only[Ty.atP] at h;simp only[Ty.cells,Ty.getP];split at h
  ·rename_i hp;rw[List.getElem?_append_left (by rw[ty_cells_length];exact hp),cells_getP a x.1 h,if_pos hp]
  ·rename_i hp;rw[List.getElem?_append_right (by rw[ty_cells_length];omega),ty_cells_length,cells_getP b x.2 h,if_neg hp]
 | .int _,_,_,_,h=>by simp[Ty.atP] at h
 | .bool,_,_,_,h=>by simp[Ty.atP] at h
 | .str,_,_,_,h=>by simp[Ty.atP] at h
 | .unit,_,_,_,h=>by simp[Ty.atP] at h
theorem cells_setP:∀(t:Ty) (x:t.El) {p:Nat} {u:Ty} (ys:List u.El),t.atP p=some u→t.cells (t.setP x p u ys)=(t.cells x).set p (.sl false false u ys)
 | .sl t,xs,p,u,ys,h=>by
  simp only[Ty.atP] at h;split at h
  ·rename_i hp;simp only[sI] at h;subst h;subst hp;simp[Ty.cells,Ty.setP]
  ·cases h
 | .prod a b,x,p,u,ys,h=>by
  simp only[Ty.atP] at h;simp only[Ty.cells,Ty.setP];split at h
  ·rename_i hp;rw[if_pos hp,cells_setP a x.1 ys h,List.set_append,if_pos (by rw[ty_cells_length];exact hp)]
  ·rename_i hp;rw[if_neg hp,cells_setP b x.2 ys h,List.set_append,if_neg (by rw[ty_cells_length];omega),ty_cells_length]
 | .int _,_,_,_,_,h=>by simp[Ty.atP] at h
 | .bool,_,_,_,_,h=>by simp[Ty.atP] at h
 | .str,_,_,_,_,h=>by simp[Ty.atP] at h
 | .unit,_,_,_,_,h=>by simp[Ty.atP] at h
theorem atP_lt:∀(t:Ty) {p:Nat} {u:Ty},t.atP p=some u→p<t.size
 | .sl t,p,u,h=>by
  simp only[Ty.atP] at h;split at h
  ·rename_i hp;subst hp;simp[Ty.size]
  ·cases h
 | .prod a b,p,u,h=>by
  simp only[Ty.atP] at h;simp only[Ty.size];split at h
  ·rename_i hp;omega
  ·rename_i hp;have:=atP_lt b h;omega
 | .int _,_,_,h=>by simp[Ty.atP] at h
 | .bool,_,_,h=>by simp[Ty.atP] at h
 | .str,_,_,h=>by simp[Ty.atP] at h
 | .unit,_,_,h=>by simp[Ty.atP] at h
theorem NK.ok_at {k:NK} (h:k.ok=true):k.t.atP k.p=some k.u:=by
 unfold NK.ok at h;simp only[Bool.and_eq_true,beq_iff_eq] at h;exact h.1.1
theorem inner_sl {X:Ctx} {e:TypeId} {u:Ty} {ys:List u.El} {o:Option Pl} {v:Value} (h:InnerOk X e u ys o v) {S':Nat→Prop} (hS:∀k,X.S k→S' k) (ho:∀p,o=some p→S' p.b) (ρ:Nat→Option Loc) (H:Heap):
  RelD ⟨ρ,H,S',X.w⟩ (.sl false false u ys) v:=by
 obtain⟨A,c,rfl,h1,h2,h3,h4⟩:=h;simp only[RelD];by_cases hc:c=0
 ·have h0:ys.length=0:=by omega
  have h0':ys=[]:=List.eq_nil_of_length_eq_zero h0;subst h0';exact⟨A,c,[],rfl,h1,h2,by simp,by simp,rfl,fun j u hj=>by simp at hj⟩
 ·obtain⟨l,rfl,rfl,h5⟩:=h3.resolve_left hc;obtain⟨cs,hb,hn,us,hr,hone,hfit,hcs⟩:=h4;refine⟨_,c,us,rfl,h1,h2,by simp,by simp,Reps_mono (RelE_mono (fun k hk=>⟨hS k hk,rfl⟩) u) ys us hr,fun j w hj=>⟨_,rfl,ho l rfl,?_⟩⟩;rw[add_plain,cell_of_row _ _ _ _ _ _ hb];exact hcs j w hj
theorem NestEl.relE {X:Ctx} {k:NK} (hk:k.ok=true) {x:k.t.El} {us:List Value} {o:Option Pl} (h:NestEl X k x us o none) (hl:us.length=k.t.size) {S':Nat→Prop} (hS:∀k,X.S k→S' k) (ho:∀p,o=some p→S' p.b):RelE S' X.w k.t x us:=by
 refine relE_of_cells ⟨X.ρ,X.H,S',X.w⟩ k.t x us (relDs_of_get (by rw[ty_cells_length,hl]) fun i d u hd hu=> ?_);by_cases hi:i=k.p
 ·subst hi;rw[cells_getP k.t x (NK.ok_at hk)] at hd;cases hd;obtain⟨v,hv,hi⟩:=h.inn;rw[hu] at hv;cases hv;exact inner_sl hi hS ho X.ρ X.H
 ·obtain⟨v,hv,hr⟩:=h.flat i d hi hd;rw[hu] at hv;cases hv;have hle:Le X ⟨X.ρ,X.H,S',X.w⟩:=⟨fun k hk=>⟨hS k hk,rfl⟩,fun id=>Pair.self X id⟩;exact hle.d hr
theorem nest_reps {X:Ctx} {k:NK} {xs:List k.t.El} {l:Loc} {us:List Value} (hk:k.ok=true) (hul:us.length=xs.length*k.t.size)
  (hel:∀j x,xs[j]? =some x→NestEl X k x ((us.drop (j*k.t.size)).take k.t.size) (l.inn.getD j none) none) {S':Nat→Prop} (hS:∀k,X.S k→S' k) (ho:∀k∈l.bs,S' k):Reps (RelE S' X.w k.t) xs us:=by
 refine reps_of_get (RelE_length k.t) hul fun j x hx=> ?_;have hjl:j<xs.length:=by
  apply Nat.lt_of_not_le;intro hle;rw[List.getElem?_eq_none hle] at hx;cases hx
 refine(hel j x hx).relE hk ?_ hS (fun p hp=>ho _ (Loc.bs_mem.2 (.inr ⟨j,p,hp,rfl⟩)));have:(j+1)*k.t.size≤xs.length*k.t.size:=Nat.mul_le_mul_right _ hjl;rw[Nat.add_mul,Nat.one_mul] at this;simp;omega
theorem own_seq {b:Beg} {X:Ctx} (M:Mem b X) {S':Nat→Prop} (hS:∀k,X.S k→S' k) {rd:Nat→Option Row} (hrd:∀id r,rd id=some r→hget X.H id=some r) {id off len:Nat} {cap:Option Nat} {t:Ty} {x:List t.El} {u:Value}
  (hr:rowData rd id off len t=some x) (hk:∀l,X.ρ id=some l→∀k∈l.bs,S' k) (h:RelD X (.own id off len cap) u):
  hget X.H id≠none∧∃A c us',u= .slice A x.length c∧x.length≤c∧(A=none→c=0)∧Reps (RelE S' X.w t) x us'∧At S' X.w A us'∧(∀v,v∈us'→v.oneCell'=true):=by
 rcases rowData_some hr with⟨e,xs,h1,rfl⟩|⟨k,xs,h1,rfl,rfl⟩
 ·obtain⟨A,c,us',e1,h2,h3,h4,h5,h6⟩:=own_data M hS (hrd _ _ h1) hk h;exact⟨by rw[hrd _ _ h1];simp,A,c,us',e1,h2,h3,Reps_mono (fun x us h=>RelE_mono (fun k hk=>⟨hS k hk,rfl⟩) t x us h) _ _ h4,h5,h6⟩
 ·have hr:=hrd _ _ h1;refine⟨by rw[hr];simp,?_⟩;simp only[RelD] at h;rw[hget_live.1 hr] at h;obtain⟨hlen,A,c,e1,hc,hA,_,_,hplace⟩:=h;have hl:((xs.drop off).take len).length=len:=by simp;omega
  simp only[hl];by_cases hc0:c=0
  ·have h0:len=0:=by omega
   subst h0;refine⟨A,c,[],e1,hc,hA,?_,fun j u hj=>by simp at hj,by simp⟩;simp[Reps]
  ·obtain⟨l',hl0,hl2,hl3⟩:=hplace.resolve_left hc0;obtain⟨l,hl1,rfl⟩:=Ctx.pl_some hl0;have hrow:=M.rows id _ hr;rw[hl1] at hrow;obtain⟨cs,ty,hb,hn,hty,hok,hnd,hil,us,hul,hone,_,hcs,hel⟩:=hrow;have hreps:=nest_reps hok hul (l:=l) hel hS (hk l hl1);refine⟨A,c,(us.drop (off*k.t.size)).take (len*k.t.size),e1,hc,hA,?_,?_,?_⟩
   ·exact(hreps.drop (RelE_length k.t) off).take (RelE_length k.t) len
   ·intro j u hj;have hj':us[off*k.t.size+j]? =some u:=by
     rw[List.getElem?_take] at hj;split at hj
     ·rwa [List.getElem?_drop] at hj
     ·cases hj
    refine⟨_,hl2,hk l hl1 l.b l.b_in,?_⟩;rw[add_plain,cell_of_row _ _ _ _ _ _ hb];have:=hcs _ _ hj';rwa [Nat.add_assoc]
   ·intro v hv;exact hone v (List.mem_of_mem_drop (List.mem_of_mem_take hv))
theorem ofCells_rel {b:Beg} {X:Ctx} (M:Mem b X) {S':Nat→Prop} (hS:∀k,X.S k→S' k) (rd:Nat→Option Row) (hrd:∀id r,rd id=some r→hget X.H id=some r):
  ∀(t:Ty) (cs:List D) (x:t.El) (us:List Value),t.ofCells rd cs=some x→RelDs X cs us→(∀id∈killIds cs,∀l,X.ρ id=some l→∀k∈l.bs,S' k)→
   RelE S' X.w t x us∧(∀id∈killIds cs,hget X.H id≠none)∧(∀u,u∈us→u.oneCell'=true):=by
 intro t;induction t with
 |int k=>
  intro cs x us h hr hk;simp only[Ty.ofCells] at h;unfold intC at h;split at h
  ·rename_i k' n;split at h
   ·rename_i e;subst e;simp only[sI] at h;subst h;obtain⟨u,e,h1⟩:=relDs_one.1 hr;simp only[RelD] at h1;subst h1;subst e;exact⟨rfl,by simp[killIds],by simp[Value.oneCell']⟩
   ·cases h
  ·cases h
 |bool=>
  intro cs x us h hr hk;simp only[Ty.ofCells] at h;unfold boolC at h;split at h
  ·simp only[sI] at h;subst h;obtain⟨u,e,h1⟩:=relDs_one.1 hr;simp only[RelD] at h1;subst h1;subst e;exact⟨rfl,by simp[killIds],by simp[Value.oneCell']⟩
  ·cases h
 |str=>
  intro cs x us h hr hk;simp only[Ty.ofCells] at h;unfold strC at h;split at h
  ·simp only[sI] at h;subst h;obtain⟨u,e,h1⟩:=relDs_one.1 hr;simp only[RelD] at h1;subst h1;subst e;exact⟨rfl,by simp[killIds],by simp[Value.oneCell']⟩
  ·cases h
 |sl t ih=>
  intro cs x us h hr hk;simp only[Ty.ofCells] at h;unfold slC at h;split at h
  ·rename_i nn cl t' xs;split at h
   ·rename_i ht;subst ht;simp only[sI] at h;subst h;obtain⟨u,e,h1⟩:=relDs_one.1 hr;simp only[RelD] at h1;obtain⟨A,c,us',e1,h2,h3,_,_,h5,h6⟩:=h1;subst e;subst e1;exact⟨⟨A,c,us',rfl,h2,h3,Reps_mono (fun x us h=>RelE_mono (fun k hk=>⟨hS k hk,rfl⟩) t' x us h) _ _ h5,At_mono (fun k hk=>⟨hS k hk,rfl⟩) h6⟩,by simp[killIds],by simp[Value.oneCell']⟩
   ·cases h
  ·simp only[sI] at h;subst h;obtain⟨u,e,h1⟩:=relDs_one.1 hr;simp only[RelD] at h1;subst e;subst h1;exact⟨⟨none,0,[],rfl,Nat.le_refl _,fun _=>rfl,rfl,fun j u hj=>by simp at hj⟩,by simp[killIds],by simp[Value.oneCell']⟩
  ·rename_i id off len cap;obtain⟨u,eu,h1⟩:=relDs_one.1 hr;obtain⟨hl,A,c,us',e1,h2,h3,h4,h5,_⟩:=own_seq M hS hrd h (hk id (by simp[killIds])) h1;subst eu;subst e1;exact⟨⟨A,c,us',rfl,h2,h3,h4,h5⟩,by simp[killIds,hl],by simp[Value.oneCell']⟩
  ·cases h
 |prod a b iha ihb=>
  intro cs x us h hr hk;simp only[Ty.ofCells] at h;split at h
  ·rename_i x1 y1 h1 h2;simp only[sI] at h;subst h;obtain⟨r1,l1,o1⟩:=iha _ _ _ h1 (relDs_take a.size hr) (fun id hid=>hk id (killIds_take hid));obtain⟨r2,l2,o2⟩:=ihb _ _ _ h2 (relDs_drop a.size hr) (fun id hid=>hk id (killIds_drop hid));refine⟨⟨_,_,(List.take_append_drop a.size us).symm,r1,r2⟩,fun id hid=> ?_,fun u hu=> ?_⟩
   ·rcases killIds_split (n:=a.size) hid with h|h
    ·exact l1 id h
    ·exact l2 id h
   ·rw[←List.take_append_drop a.size us] at hu;rcases List.mem_append.1 hu with h|h
    ·exact o1 u h
    ·exact o2 u h
  ·cases h
 |unit=>
  intro cs x us h hr hk;simp only[Ty.ofCells] at h;unfold nilC at h;split at h
  ·simp only[RelDs] at hr;subst hr;exact⟨rfl,by simp[killIds],by simp⟩
  ·cases h
theorem elems_rel {b:Beg} {X:Ctx} (M:Mem b X) {S':Nat→Prop} (hS:∀k,X.S k→S' k) (rd:Nat→Option Row) (hrd:∀id r,rd id=some r→hget X.H id=some r) (t:Ty):
  ∀(n:Nat) (cs:List D) (xs:List t.El) (us:List Value),elems rd t n cs=some xs→RelDs X cs us→(∀id∈killIds cs,∀l,X.ρ id=some l→∀k∈l.bs,S' k)→
   Reps (RelE S' X.w t) xs us∧xs.length=n∧(∀id∈killIds cs,hget X.H id≠none)∧(∀u,u∈us→u.oneCell'=true):=by
 intro n;induction n with
 |zero=>
  intro cs xs us h hr hk;unfold elems at h;split at h
  ·simp only[sI] at h;subst h;simp only[RelDs] at hr;subst hr;exact⟨rfl,rfl,by simp[killIds],by simp⟩
  ·cases h
  ·contradiction
 |succ n ih=>
  intro cs xs us h hr hk;simp only[elems] at h;split at h
  ·rename_i x1 y1 h1 h2;simp only[sI] at h;subst h;obtain⟨r1,l1,o1⟩:=ofCells_rel M hS rd hrd t _ _ _ h1 (relDs_take t.size hr) (fun id hid=>hk id (killIds_take hid));obtain⟨r2,e2,l2,o2⟩:=ih _ _ _ h2 (relDs_drop t.size hr) (fun id hid=>hk id (killIds_drop hid));refine⟨⟨_,_,(List.take_append_drop t.size us).symm,r1,r2⟩,by simp[e2],fun id hid=> ?_,fun u hu=> ?_⟩
   ·rcases killIds_split (n:=t.size) hid with h|h
    ·exact l1 id h
    ·exact l2 id h
   ·rw[←List.take_append_drop t.size us] at hu;rcases List.mem_append.1 hu with h|h
    ·exact o1 u h
    ·exact o2 u h
  ·cases h
theorem ctx_put_same (X:Ctx) (id:Nat) (s:Slot) (S':Nat→Prop) (w':World) (i:Nat):(X.put id s (X.ρ id) S' w').ρ i=X.ρ i:=by
 simp only[Ctx.put];by_cases h:i=id
 ·rw[if_pos h,h]
 ·rw[if_neg h]
theorem nodupB_cons {a:Nat} {l:List Nat} (h:nodupB (a::l)=true):a∉l∧nodupB l=true:=by
 simp only[nodupB,Bool.and_eq_true,Bool.not_eq_true',List.contains_eq_mem,decide_eq_false_iff_not] at h;exact h
theorem mem_kills {b:Beg}:∀(ids:List Nat) {X:Ctx},Mem b X→nodupB ids=true→(∀id∈ids,hget X.H id≠none)→
  ∃Y,Mem b Y∧Le X Y∧Y.H=setWrites X.H (ids.map fun i=>(i,none))∧(∀i,Y.ρ i=X.ρ i)∧Y.w=X.w∧(∀k,X.S k→Y.S k)∧(∀id∈ids,∀l,X.ρ id=some l→∀k∈l.bs,Y.S k)∧
   (∀k,Y.S k→X.S k∨∃id∈ids,∃l,X.ρ id=some l∧k∈l.bs)
 | [],X,M,_,_=>⟨X,M,Le.refl X,rfl,fun _=>rfl,rfl,fun _ h=>h,by simp,fun k h=> .inl h⟩
 |id::ids,X,M,hnd,hl=>by
  obtain⟨hni,hnd'⟩:=nodupB_cons hnd;obtain⟨r0,h0⟩:∃r,hget X.H id=some r:=by
   cases h:hget X.H id with
   |none=>exact absurd h (hl id (by simp))
   |some r=>exact⟨r,rfl⟩
  obtain⟨M1,L1⟩:=mem_kill M h0 (fun k=>X.S k∨∃l,X.ρ id=some l∧k∈l.bs) (fun k h=> .inl h) (fun k h=>h);have hl1:∀i∈ids,hget (X.put id .dead (X.ρ id) (fun k=>X.S k∨∃l,X.ρ id=some l∧k∈l.bs) X.w).H i≠none:=by
   intro i hi;show hget (X.H.set id .dead) i≠none;rw[hget_set,if_neg (fun h=>hni (by rw[h.1];exact hi))];exact hl i (by simp[hi])
  obtain⟨Y,M2,L2,hH,hρ,hw,hS,hb,hS2⟩:=mem_kills ids M1 hnd' hl1;refine⟨Y,M2,L1.trans L2,hH,fun i=>(hρ i).trans (ctx_put_same _ _ _ _ _ _),hw,fun k h=>hS k (.inl h),?_,?_⟩
  ·intro i hi l hil k hk;rcases List.mem_cons.1 hi with h|h
   ·subst h;exact hS _ (.inr ⟨l,hil,hk⟩)
   ·exact hb i h l (by rw[ctx_put_same];exact hil) k hk
  ·intro k hk;rcases hS2 k hk with(h|⟨l,h1,h2⟩)|⟨i,hi,l,h1,h2⟩
   ·exact .inl h
   ·exact .inr ⟨id,by simp,l,h1,h2⟩
   ·rw[ctx_put_same] at h1;exact .inr ⟨i,by simp[hi],l,h1,h2⟩
theorem slot_put (X:Ctx) {id:Nat} (s:Slot) (l:Option Loc) (S':Nat→Prop) (w':World) (h:id<X.H.length):slot (X.put id s l S' w').H id=s:=by
 show slot (X.H.set id s) id=s;rw[slot_set,if_pos ⟨rfl,h⟩]
theorem run_sizeOf' {P:Program} {t:TypeId} {i:TypeInfo} (h:P.info? t=some i) (w:World):(sizeOf t).run P w= .ok i.size w:=by simp[sizeOf,typeInfo,h]
theorem run_isAgg {P:Program} {t:TypeId} (h:(P.underlying t).isSome=true) (w:World):(isAgg t).run P w= .ok (aggB P t) w:=by
 obtain⟨d,hd⟩:=Option.isSome_iff_exists.1 h;unfold isAgg aggB;rw[hd];cases d<;>simp[run_underlying hd]
section
variable {P:Program} {b:Beg} {X:Ctx}
theorem zeroD_some {t:TypeId} {cs:List D} (h:zeroD P t=some cs):∃i z,P.info? t=some i∧i.zero=some z∧z.cells.size=i.size∧(∀u,u∈z.cells.toList→u.oneCell'=true)∧cs=z.cells.toList.map .v:=by
 unfold zeroD at h;split at h
 ·rename_i i hi;split at h
  ·rename_i z hz;split at h
   ·rename_i hc;simp only[Bool.and_eq_true,decide_eq_true_eq,List.all_eq_true] at hc;simp only[sI] at h;exact⟨i,z,hi,hz,hc.1,hc.2,h.symm⟩
   ·cases h
  ·cases h
 ·cases h
theorem s_newBox (M:Mem b X) {nid:Nat} (hf:slot X.H nid= .free) (hl:nid<X.H.length) (hn:b.n≤nid) (t:TypeId) {cs:List D} {u:Value} (hr:RelDs X cs u.cells.toList) (h1:∀v,v∈u.cells.toList→v.oneCell'=true):
  ∃v X',(do pure (.pointer (some (←newVar t u))):Sem Value).run P X.w= .ok v X'.w∧Mem b X'∧X'.H=X.H.set nid (.live (.box t cs))∧Le X X'∧RelD X' (.ptr nid 0 0) v:=by
 have hc:Content X (.box t cs) (.of X.w.heap.size 0 u.cells.size) u.cells t:=⟨rfl,rfl,u.cells.toList,by simp,hr,h1⟩;obtain⟨M',L'⟩:=mem_alloc M hf hl hn (.box t cs) u.cells t rfl hc;refine⟨.pointer (some ⟨X.w.heap.size,0,none⟩),_,?_,M',rfl,L',?_⟩
 ·rfl
 ·simp only[RelD];rw[slot_put X _ _ _ _ hl];exact⟨_,by simp[Ctx.pl,Ctx.put];rfl,rfl⟩
theorem s_alloc (M:Mem b X) {nid:Nat} (hf:slot X.H nid= .free) (hl:nid<X.H.length) (hn:b.n≤nid) {t:TypeId} {cs:List D} (hz:zeroD P t=some cs):
  ∃v X',(Instr.alloc t true (.tuple #[])).run P X.w= .ok v X'.w∧Mem b X'∧X'.H=X.H.set nid (.live (.box t cs))∧Le X X'∧RelD X' (.ptr nid 0 0) v:=by
 obtain⟨i,z,hi,hz',hs,h1,rfl⟩:=zeroD_some hz;obtain⟨v,X',hr,h2⟩:=s_newBox (P:=P) M hf hl hn t (u:=z) (relDs_v _) h1;refine⟨v,X',?_,h2⟩;rw[←hr];simp[Instr.alloc,zeroValue,typeInfo,hi,hz']
theorem s_box (M:Mem b X) {nid:Nat} (hf:slot X.H nid= .free) (hl:nid<X.H.length) (hn:b.n≤nid) (t:TypeId) {d:D} {cs:List D} {u:Value} (hc:cellsOf d=some cs) (hr:RelD X d u):
  ∃v X',(Instr.box t u).run P X.w= .ok v X'.w∧Mem b X'∧X'.H=X.H.set nid (.live (.box t cs))∧Le X X'∧RelD X' (.ptr nid 0 0) v:=by
 obtain⟨h1,h2⟩:=cellsOf_rel hc hr;exact s_newBox (P:=P) M hf hl hn t h1 (cells_all_one h2 h1)
theorem valD_load {t:TypeId} {i:TypeInfo} (hi:P.info? t=some i) (hu:(P.underlying t).isSome=true) {cs:List D} {d:D} {us:List Value} {a:Addr} (hr:RelDs X cs us) (hl:cs.length=i.size)
  (hv:valD P t cs=some d) (hc:∀j u,us[j]? =some u→X.w.cell? (a.add j)=some u):
  ∃v,(loadVar t a).run P X.w= .ok v X.w∧RelD X d v:=by
 have hlen:=relDs_length hr;unfold valD at hv;split at hv
 ·rename_i ha;simp only[sI] at hv;subst hv;refine⟨.agg us.toArray,?_,by simp only[RelD];exact⟨us,rfl,hr⟩⟩;have:=run_loadCells_list (P:=P) X.w a us hc;rw[hlen,hl] at this;simp[loadVar,run_isAgg hu,ha,run_sizeOf' hi,this]
 ·rename_i ha;split at hv
  ·rename_i d';simp only[sI] at hv;subst hv;obtain⟨u,e,h1⟩:=relDs_one.1 hr;subst e;refine⟨u,?_,h1⟩;have h0:=hc 0 u rfl;have hadd:a.add 0=a:=by simp[Addr.add]
   rw[hadd] at h0;have ha':aggB P t=false:=by simpa using ha
   simp[loadVar,run_isAgg hu,ha',h0]
  ·cases hv
theorem ptr_cells (M:Mem b X) {id i off:Nat} {u:Value} (h:RelD X (.ptr id i off) u) {r:Row} (hr:hget X.H id=some r):
  ∃l cs ty,X.ρ id=some l∧u= .pointer (some ⟨l.b,l.o+(match r.dims with|none=>off|some (sz,_)=>i*sz+off),none⟩)∧X.w.heap[l.b]? =some (.cells cs ty (0,0))∧Content X r l cs ty:=by
 simp only[RelD] at h;rw[hget_live.1 hr] at h;obtain⟨l',hl0,e⟩:=h;obtain⟨l,hl,rfl⟩:=Ctx.pl_some hl0;have hrow:=M.rows id r hr;rw[hl] at hrow;obtain⟨cs,ty,hb,hc⟩:=hrow;exact⟨l,cs,ty,hl,e,hb,hc⟩
theorem s_load_box (M:Mem b X) {t:TypeId} {i:TypeInfo} (hi:P.info? t=some i) (hu:(P.underlying t).isSome=true) {id k off:Nat} {u:Value} (h:RelD X (.ptr id k off) u) {bt:TypeId} {ds:List D}
  (hr:hget X.H id=some (.box bt ds)) (hfit:off+i.size≤ds.length) {d:D} (hv:valD P t ((ds.drop off).take i.size)=some d):
  ∃v,(Instr.loadAt t u).run P X.w= .ok v X.w∧RelD X d v:=by
 obtain⟨l,cs,ty,hl,e,hb,hn,ho,us,ecs,hds,h1⟩:=ptr_cells M h hr;subst e;have:=valD_load (P:=P) (X:=X) (a:=⟨l.b,l.o+off,none⟩) hi hu (relDs_take i.size (relDs_drop off hds)) (by simp;omega) hv (fun j v hj=>by
  rw[add_plain,cell_of_row _ _ _ _ _ _ hb,ecs,ho];rw[List.getElem?_take] at hj;split at hj
  ·rw[List.getElem?_drop] at hj;simp only[Nat.zero_add,List.getElem?_toArray];exact hj
  ·cases hj)
 obtain⟨v,hv1,hv2⟩:=this;exact⟨v,by simpa [Instr.loadAt,Instr.sureAddr] using hv1,hv2⟩
theorem s_load_data (M:Mem b X) {t:TypeId} {i:TypeInfo} (hi:P.info? t=some i) (hu:(P.underlying t).isSome=true) {id k off:Nat} {u:Value} (h:RelD X (.ptr id k off) u) {e:TypeId} {ty:Ty} {xs:List ty.El}
  (hr:hget X.H id=some (.data e ty xs)) (hfit:off+i.size≤ty.size) (hk:k<xs.length) {d:D} (hv:valD P t (((ty.cells (xs.getD k ty.dflt)).drop off).take i.size)=some d):
  ∃v,(Instr.loadAt t u).run P X.w= .ok v X.w∧RelD X d v:=by
 obtain⟨l,cs,bt,hl,e,hb,hn,he,us,hreps,h1,_,hcs⟩:=ptr_cells M h hr;subst e;have hx:xs[k]? =some (xs.getD k ty.dflt):=by simp[gE,hk]
 have hel:=hreps.get (RelE_length ty) hx;have hcells:=relE_cells X ty _ _ hel;have:=valD_load (P:=P) (X:=X) (a:=⟨l.b,l.o+(k*ty.size+off),none⟩) hi hu (relDs_take i.size (relDs_drop off hcells)) (by simp[ty_cells_length];omega) hv (fun j v hj=>by
  rw[add_plain,cell_of_row _ _ _ _ _ _ hb];rw[List.getElem?_take] at hj;split at hj
  ·rw[List.getElem?_drop,List.getElem?_take] at hj;split at hj
   ·rw[List.getElem?_drop] at hj;have:=hcs _ _ hj;rw[←this];congr 1
    omega
   ·cases hj
  ·cases hj)
 obtain⟨v,hv1,hv2⟩:=this;exact⟨v,by simpa [Instr.loadAt,Instr.sureAddr] using hv1,hv2⟩
theorem s_load_ro {t:TypeId} {i:TypeInfo} (hi:P.info? t=some i) (hu:(P.underlying t).isSome=true) {ds:List D} {u:Value} (h:RelD X (.rptr ds) u) (hfit:i.size≤ds.length) {d:D} (hv:valD P t (ds.take i.size)=some d):
  ∃v,(Instr.loadAt t u).run P X.w= .ok v X.w∧RelD X d v:=by
 simp only[RelD] at h;obtain⟨a,us,e,hds,hat⟩:=h;subst e;have:=valD_load (P:=P) (X:=X) (a:=a) hi hu (relDs_take i.size hds) (by simp;omega) hv (fun j v hj=>by
  rw[List.getElem?_take] at hj;split at hj
  ·obtain⟨a',e,_,hc⟩:=hat j v hj;cases e;exact hc
  ·cases hj)
 obtain⟨v,hv1,hv2⟩:=this;exact⟨v,by simpa [Instr.loadAt,Instr.sureAddr] using hv1,hv2⟩
theorem list_splice {α:Type} (l v:List α) (o:Nat) (h:o+v.length≤l.length) (j:Nat):
  (l.take o++v++l.drop (o+v.length))[j]? =if j<o then l[j]? else if j<o+v.length then v[j-o]? else l[j]? :=by
 rw[List.append_assoc,List.getElem?_append];simp only[List.length_take,show min o l.length=o by omega];split
 ·rename_i hj;rw[List.getElem?_take,if_pos hj]
 ·rename_i hj;rw[List.getElem?_append];split
  ·rename_i h2;rw[if_pos (by omega)]
  ·rename_i h2;rw[if_neg (by omega),List.getElem?_drop];congr 1;omega
theorem s_cells (M:Mem b X) {id:Nat} {r0 r:Row} (h0:hget X.H id=some r0) {l:Loc} (hl:X.ρ id=some l) (hcomp:Comp r0 r) (hok:r.okLoc l) (hnd:∀j p,l.inn.getD j none=some p→p.b≠l.b) {cs:Array Value} {ty:TypeId} (hb:X.w.heap[l.b]? =some (.cells cs ty (0,0)))
  (o:Nat) (vs:List Value) (hfit:o+vs.length≤cs.size) (h1:∀v,v∈vs→v.oneCell'=true)
  (hc:Content X r l (cs.toList.take o++vs++cs.toList.drop (o+vs.length)).toArray ty):
  ∃X',(storeCells ⟨l.b,o,none⟩ vs).run P X.w= .ok () X'.w∧Mem b X'∧X'.H=X.H.set id (.live r)∧Le X X'∧X'.S=X.S:=by
 have hst:=run_storeCells_at (P:=P) l.b o ty vs 0 cs X.w hb (by simpa using hfit) h1;simp only[Nat.add_zero] at hst;have hset:=setRow_heap X.w l.b cs (cs.toList.take o++vs++cs.toList.drop (o+vs.length)).toArray ty (0,0) hb;obtain⟨M',L'⟩:=mem_write M h0 hl r hcomp hok (X.w.setRow l.b (cs.toList.take o++vs++cs.toList.drop (o+vs.length)).toArray) rfl rfl rfl (by simp) (fun k hk=>setRow_other X.w l.b k _ hk) hnd _ ty hset hc;exact⟨_,hst,M',rfl,L',rfl⟩
end
theorem setWrites_set:∀(ws:List (Nat×Option Row)) (H:Heap) (id:Nat) (s:Slot),(∀p∈ws,p.1≠id)→setWrites (H.set id s) ws=(setWrites H ws).set id s
 | [],H,id,s,_=>rfl
 |(i,r)::ws,H,id,s,h=>by
  simp only[setWrites];rw[List.set_comm _ _ (fun e=>h (i,r) (by simp) e.symm),setWrites_set ws _ id s (fun p hp=>h p (by simp[hp]))]
theorem setWrites_length:∀(ws:List (Nat×Option Row)) (H:Heap),(setWrites H ws).length=H.length
 | [],H=>rfl
 |(i,r)::ws,H=>by simp only[setWrites];rw[setWrites_length];simp
theorem kills_ne {cs:List D} {id:Nat} (h:id∉killIds cs):∀p∈kills cs,p.1≠id:=by
 intro p hp e;simp only[kills,List.mem_map] at hp;obtain⟨i,hi,rfl⟩:=hp;exact h (e▸hi)
theorem hget_setWrites:∀(ws:List (Nat×Option Row)) (H:Heap) (id:Nat),(∀p∈ws,p.1≠id)→hget (setWrites H ws) id=hget H id
 | [],H,id,_=>rfl
 |(i,r)::ws,H,id,h=>by
  simp only[setWrites];rw[hget_setWrites ws _ id (fun p hp=>h p (by simp[hp])),hget_set,if_neg (fun e=>h (i,r) (by simp) e.1)]
theorem slot_setWrites:∀(ws:List (Nat×Option Row)) (H:Heap) (id:Nat),(∀p∈ws,p.1≠id)→slot (setWrites H ws) id=slot H id
 | [],H,id,_=>rfl
 |(i,r)::ws,H,id,h=>by
  simp only[setWrites];rw[slot_setWrites ws _ id (fun p hp=>h p (by simp[hp])),slot_set,if_neg (fun e=>h (i,r) (by simp) e.1)]
theorem splice_in {α:Type} (l v:List α) (a n o:Nat) (h1:o+v.length≤n) (h2:a+n≤l.length):
  l.take a++(((l.drop a).take n).take o++v++((l.drop a).take n).drop (o+v.length))++l.drop (a+n)=l.take (a+o)++v++l.drop (a+o+v.length):=by
 have e1:l.take (a+o)=l.take a++(l.drop a).take o:=List.take_add;have e2:((l.drop a).take n).take o=(l.drop a).take o:=by rw[List.take_take];congr 1;omega
 have e3:((l.drop a).take n).drop (o+v.length)++l.drop (a+n)=l.drop (a+o+v.length):=by
  rw[List.drop_take,List.drop_drop];have:l.drop (a+n)=(l.drop (a+(o+v.length))).drop (n-(o+v.length)):=by rw[List.drop_drop];congr 1;omega
  rw[this,List.take_append_drop];congr 1
  omega
 rw[e1,e2,←e3];simp[List.append_assoc]
section
variable {P:Program} {b:Beg} {X:Ctx}
theorem s_store_box (M:Mem b X) {t:TypeId} {i:TypeInfo} (hi:P.info? t=some i) {id k off:Nat} {u v:Value} (h:RelD X (.ptr id k off) u) {bt:TypeId} {ds:List D} (hr:hget X.H id=some (.box bt ds))
  {d:D} {cs:List D} (hc:cellsOf d=some cs) (hv:RelD X d v) (hs:cs.length=i.size) (hfit:off+i.size≤ds.length):
  ∃X',(Instr.storeAt t u v).run P X.w= .ok () X'.w∧Mem b X'∧X'.H=X.H.set id (.live (.box bt (ds.take off++cs++ds.drop (off+i.size))))∧Le X X':=by
 obtain⟨l,acs,ty,hl,e,hb,hn,ho,us,ecs,hds,h1⟩:=ptr_cells M h hr;obtain⟨hcs,hall⟩:=cellsOf_rel hc hv;have hlen:=relDs_length hcs;have hlen2:=relDs_length hds;subst e;have hsz:v.cells.toList.length=i.size:=by rw[hlen,hs]
 have hc':Content X (.box bt (ds.take off++cs++ds.drop (off+i.size))) l (acs.toList.take (l.o+off)++v.cells.toList++acs.toList.drop (l.o+off+v.cells.toList.length)).toArray ty:=by
  refine⟨?_,ho,us.take off++v.cells.toList++us.drop (off+i.size),?_,?_,?_⟩
  ·rw[←hn,ecs];simp[ho];have:v.cells.size=i.size:=by simpa using hsz
   omega
  ·rw[ecs,ho,hsz];simp
  ·exact relDs_append.2 ⟨_,_,rfl,relDs_append.2 ⟨_,_,rfl,relDs_take off hds,hcs⟩,relDs_drop _ hds⟩
  ·intro w hw;simp only[List.mem_append] at hw;rcases hw with(hw|hw)|hw
   ·exact h1 w (List.mem_of_mem_take hw)
   ·exact cells_all_one hall hcs w hw
   ·exact h1 w (List.mem_of_mem_drop hw)
 obtain⟨X',hrun,M',hH,L',_⟩:=s_cells (P:=P) M hr hl (r:= .box bt (ds.take off++cs++ds.drop (off+i.size))) rfl (M.ok id (.box bt ds) l hr hl) (no_inn (M.ok id (.box bt ds) l hr hl)) hb (l.o+off) v.cells.toList (by rw[ecs,ho,hsz];simp;omega) (cells_all_one hall hcs) hc';refine⟨X',?_,M',hH,L'⟩;have hsz':v.cells.size=i.size:=by simpa using hsz
 simp[Instr.storeAt,Instr.sureAddr,storeVar,run_sizeOf' hi,hsz',hrun]
theorem s_store_data (M:Mem b X) (rd:Nat→Option Row) (hrd:∀id r,rd id=some r→hget X.H id=some r) {t:TypeId} {i:TypeInfo} (hi:P.info? t=some i) {id k off:Nat} {u v:Value} (h:RelD X (.ptr id k off) u) {e:TypeId} {ty:Ty} {xs:List ty.El} (hr:hget X.H id=some (.data e ty xs))
  {d:D} {cs:List D} (hc:cellsOf d=some cs) (hv:RelD X d v) (hs:cs.length=i.size) (hfit:off+i.size≤ty.size) (hnd:nodupB (id::killIds cs)=true) (hk:k<xs.length)
  {y:ty.El} (hy:ty.ofCells rd ((ty.cells (xs.getD k ty.dflt)).take off++cs++(ty.cells (xs.getD k ty.dflt)).drop (off+i.size))=some y):
  ∃X',(Instr.storeAt t u v).run P X.w= .ok () X'.w∧Mem b X'∧X'.H=setWrites X.H ((id,some (.data e ty (xs.set k y)))::kills cs)∧Le X X':=by
 obtain⟨hni,hnd'⟩:=nodupB_cons hnd;obtain⟨hcs,hall⟩:=cellsOf_rel hc hv;have hlen:=relDs_length hcs;have hx:xs[k]? =some (xs.getD k ty.dflt):=by simp[gE,hk]
 obtain⟨l,acs,bt,hl,eu,hb,hn,he,us,hreps,h1,hbig,hacs⟩:=ptr_cells M h hr;have hel:=hreps.get (RelE_length ty) hx;have hcells:=relE_cells X ty _ _ hel;have hnew:RelDs X ((ty.cells (xs.getD k ty.dflt)).take off++cs++(ty.cells (xs.getD k ty.dflt)).drop (off+i.size)) (((us.drop (k*ty.size)).take ty.size).take off++v.cells.toList++((us.drop (k*ty.size)).take ty.size).drop (off+i.size)):=
  relDs_append.2 ⟨_,_,rfl,relDs_append.2 ⟨_,_,rfl,relDs_take off hcells,hcs⟩,relDs_drop _ hcells⟩
 have hkeep:∀j,j∈killIds ((ty.cells (xs.getD k ty.dflt)).take off++cs++(ty.cells (xs.getD k ty.dflt)).drop (off+i.size))→j∈killIds cs:=by
  have hno:∀(t:Ty) (x:t.El) j,j∉killIds (t.cells x):=by
   intro t;induction t with
   |prod a b iha ihb=>
    intro x j hj;rw[mem_killIds] at hj;obtain⟨o,ln,cp,hm⟩:=hj;simp only[Ty.cells] at hm;rcases List.mem_append.1 hm with hm|hm
    ·exact iha _ j (mem_killIds.2 ⟨o,ln,cp,hm⟩)
    ·exact ihb _ j (mem_killIds.2 ⟨o,ln,cp,hm⟩)
   |_=>intro x j hj;simp[Ty.cells,killIds] at hj
  intro j hj;rw[mem_killIds] at hj;obtain⟨o,ln,cp,hm⟩:=hj;rcases List.mem_append.1 hm with hm|hm
  ·rcases List.mem_append.1 hm with hm|hm
   ·exact absurd (mem_killIds.2 ⟨o,ln,cp,List.mem_of_mem_take hm⟩) (hno _ _ _)
   ·exact mem_killIds.2 ⟨o,ln,cp,hm⟩
  ·exact absurd (mem_killIds.2 ⟨o,ln,cp,List.mem_of_mem_drop hm⟩) (hno _ _ _)
 have hlive:∀j∈killIds cs,hget X.H j≠none:=by
  intro j hj;have:=(ofCells_rel (S':=fun _=>True) M (fun _ _=>trivial) rd hrd ty _ _ _ hy hnew (fun _ _ _ _ _ _=>trivial)).2.1 j;refine this ?_;rw[mem_killIds] at hj⊢;obtain⟨o,ln,cp,hm⟩:=hj;exact⟨o,ln,cp,List.mem_append_left _ (List.mem_append_right _ hm)⟩
 obtain⟨Y,MY,LY,hYH,hYρ,hYw,hYS,hYb,_⟩:=mem_kills (killIds cs) M hnd' hlive;have hYr:hget Y.H id=some (.data e ty xs):=by
  rw[hYH];show hget (setWrites X.H (kills cs)) id=_;rw[hget_setWrites _ _ _ (kills_ne hni),hr]
 have hE:=(ofCells_rel M hYS rd hrd ty _ _ _ hy hnew (fun j hj=>hYb j (hkeep j hj))).1;rw[←hYw] at hE;have hYl:Y.ρ id=some l:=by rw[hYρ,hl]
 have hreps':Reps (RelE Y.S Y.w ty) xs us:=by
  rw[hYw];exact Reps_mono (fun x us h=>RelE_mono (fun k hk=>⟨hYS k hk,rfl⟩) ty x us h) _ _ hreps
 have husl:=reps_length hreps;have hkn:k*ty.size+ty.size≤us.length:=by
  rw[husl,←Nat.succ_mul];exact Nat.mul_le_mul_right _ hk
 have hsz:v.cells.toList.length=i.size:=by rw[hlen,hs]
 have hset:=hreps'.set (RelE_length ty) hk hE;rw[←hsz,splice_in us v.cells.toList (k*ty.size) ty.size off (by omega) hkn] at hset;have hYbk:Y.w.heap[l.b]? =some (.cells acs bt (0,0)):=by rw[hYw];exact hb
 rw[←hn] at hbig;have hsz2:v.cells.size=i.size:=by simpa using hsz
 have hc':Content Y (.data e ty (xs.set k y)) l (acs.toList.take (l.o+(k*ty.size+off))++v.cells.toList++acs.toList.drop (l.o+(k*ty.size+off)+v.cells.toList.length)).toArray bt:=by
  refine⟨?_,he,_,hset,?_,?_,?_⟩
  ·rw[←hn];have:v.cells.size=i.size:=by simpa using hsz
   simp;omega
  ·intro w hw;simp only[List.mem_append] at hw;rcases hw with(hw|hw)|hw
   ·exact h1 w (List.mem_of_mem_take hw)
   ·exact cells_all_one hall hcs w hw
   ·exact h1 w (List.mem_of_mem_drop hw)
  ·rw[←hn];have:v.cells.size=i.size:=by simpa using hsz
   simp;omega
  ·intro j w hj;rw[list_splice _ _ _ (by omega)] at hj;simp only[List.getElem?_toArray];rw[list_splice _ _ _ (by simp only[Array.length_toList];omega)];by_cases c1:j<k*ty.size+off
   ·rw[if_pos c1] at hj;rw[if_pos (by omega)];simpa using hacs _ _ hj
   ·rw[if_neg c1] at hj;rw[if_neg (by omega)];by_cases c2:j<k*ty.size+off+v.cells.toList.length
    ·rw[if_pos c2] at hj;rw[if_pos (by omega)];rw[←hj];congr 1
     omega
    ·rw[if_neg c2] at hj;rw[if_neg (by omega)];simpa using hacs _ _ hj
 obtain⟨X',hrun,M',hH,L',_⟩:=s_cells (P:=P) MY hYr hYl (r:= .data e ty (xs.set k y)) (by simp[Comp,Row.dims]) (MY.ok id (.data e ty xs) l hYr hYl) (no_inn (MY.ok id (.data e ty xs) l hYr hYl)) hYbk (l.o+(k*ty.size+off)) v.cells.toList (by omega) (cells_all_one hall hcs) hc';refine⟨X',?_,M',?_,LY.trans L'⟩
 ·subst eu;have hsz':v.cells.size=i.size:=by simpa using hsz
  rw[hYw] at hrun;simp[Instr.storeAt,Instr.sureAddr,storeVar,run_sizeOf' hi,hsz',hrun]
 ·rw[hH,hYH];show(setWrites X.H (kills cs)).set id _=setWrites (X.H.set id _) (kills cs);rw[setWrites_set _ _ _ _ (kills_ne hni)];rfl
end
theorem list_seg (l:List Value) (k:Nat) (v:Value) (rest:List Value) (hk:k+(rest.length+1)≤l.length):
  (l.set k v).take (k+1)++rest++(l.set k v).drop (k+1+rest.length)=l.take k++(v::rest)++l.drop (k+(rest.length+1)):=list_seg_step l k v rest hk
theorem fold_set:∀(l:List Value) (k off:Nat) (cells:List Value),off+k+l.length≤cells.length→
  (l.zipIdx k).foldl (fun(cs:Array Value) (p:Value×Nat)=>cs.setIfInBounds (off+p.2) p.1) cells.toArray=(cells.take (off+k)++l++cells.drop (off+k+l.length)).toArray
 | [],k,off,cells,_=>by simp
 |v::l,k,off,cells,h=>by
  simp only[List.zipIdx_cons,List.foldl_cons];have e:(cells.toArray.setIfInBounds (off+k) v)=(cells.set (off+k) v).toArray:=by simp
  rw[e,fold_set l (k+1) off (cells.set (off+k) v) (by simp at h⊢;omega)];congr 1
  have:=list_seg cells (off+k) v l (by simp at h;omega);simpa [Nat.add_assoc] using this
theorem fill_step (place:Nat→Option (Nat×Nat)) (cells:List Value) (i:Nat) (v:Value) (rest:List (Nat×Value)) {off size:Nat} (hp:place i=some (off,size)) (hs:v.cells.size=size) (hf:off+size≤cells.length):
  Instr.fill place cells.toArray ((i,v)::rest)=Instr.fill place (cells.take off++v.cells.toList++cells.drop (off+size)).toArray rest:=by
 have h1:¬(v.cells.size≠size∨off+v.cells.size>cells.toArray.size):=by
  simp;omega
 have h2:=fold_set v.cells.toList 0 off cells (by simp;omega);simp only[Nat.add_zero] at h2;rw[Instr.fill,hp];simp only;have h3:(decide (v.cells.size≠size)||decide (off+v.cells.size>cells.toArray.size))=false:=by simpa using h1
 have h4:v.cells.zipIdx.foldl (fun cs (x:Value×Nat)=>match x with|(c,j)=>cs.setIfInBounds (off+j) c) cells.toArray=(cells.take off++v.cells.toList++cells.drop (off+size)).toArray:=by
  rw[←hs,←Array.foldl_toList,Array.toList_zipIdx];simpa using h2
 rw[if_neg (by simpa using h3),h4]
section
variable {P:Program} {b:Beg} {X:Ctx}
theorem fill_rel {ev:Operand→D} {va:Operand→Value} (hev:∀x,RelD X (ev x) (va x)) (place:Nat→Option (Nat×Nat)):
  ∀(ps:List (Nat×Operand)) (cs cs':List D) (us:List Value),RelDs X cs us→(∀u,u∈us→u.oneCell'=true)→fillD place cs (ps.map fun p=>(p.1,ev p.2))=some cs'→
   ∃us',Instr.fill place us.toArray (ps.map fun p=>(p.1,va p.2))=some us'.toArray∧RelDs X cs' us'∧(∀u,u∈us'→u.oneCell'=true)
 | [],cs,cs',us,hr,h1,h=>by
  simp only[List.map_nil,fillD,sI] at h;subst h;exact⟨us,by simp[Instr.fill],hr,h1⟩
 |(i,x)::ps,cs,cs',us,hr,h1,h=>by
  simp only[List.map_cons,fillD] at h;split at h
  ·rename_i off size c hp hc;split at h
   ·rename_i hh;simp only[Bool.and_eq_true,decide_eq_true_eq] at hh;obtain⟨hc1,hc2⟩:=cellsOf_rel hc (hev x);have hl:=relDs_length hr;have hlc:=relDs_length hc1;have hs:(va x).cells.size=size:=by rw[←hh.1,←hlc];simp
    have hnew:RelDs X (cs.take off++c++cs.drop (off+size)) (us.take off++(va x).cells.toList++us.drop (off+size)):=
     relDs_append.2 ⟨_,_,rfl,relDs_append.2 ⟨_,_,rfl,relDs_take off hr,hc1⟩,relDs_drop _ hr⟩
    have hone:∀u,u∈us.take off++(va x).cells.toList++us.drop (off+size)→u.oneCell'=true:=by
     intro w hw;simp only[List.mem_append] at hw;rcases hw with(hw|hw)|hw
     ·exact h1 w (List.mem_of_mem_take hw)
     ·exact cells_all_one hc2 hc1 w hw
     ·exact h1 w (List.mem_of_mem_drop hw)
    obtain⟨us',hf,hr',ho'⟩:=fill_rel hev place ps _ cs' _ hnew hone h;refine⟨us',?_,hr',ho'⟩;rw[List.map_cons];rw[fill_step place us i (va x) _ hp hs (by omega)];exact hf
   ·cases h
  ·cases h
theorem s_build_struct {ev:Operand→D} {va:Operand→Value} (hev:∀x,RelD X (ev x) (va x)) {t:TypeId} {fs:Array Field} (hu:P.underlying t=some (.struct fs)) {z cs:List D} (hz:zeroD P t=some z) (parts:Array (Nat×Operand))
  {places:List (Nat×Nat)} (hp:fs.toList.mapM (fun f=>(P.info? f.type).map fun i=>(f.offset,i.size))=some places)
  (hf:fillD (places.toArray[·]?) z (parts.toList.map fun p=>(p.1,ev p.2))=some cs):
  ∃v,(Instr.build t (parts.map fun p=>(p.1,va p.2))).run P X.w= .ok v X.w∧RelD X (.agg cs) v:=by
 obtain⟨i,zv,hi,hz',hs,h1,rfl⟩:=zeroD_some hz;obtain⟨us',hfill,hr,_⟩:=fill_rel hev (places.toArray[·]?) parts.toList _ cs _ (relDs_v zv.cells.toList) h1 hf;refine⟨.agg us'.toArray,?_,by simp only[RelD];exact⟨us',rfl,hr⟩⟩;refine run_build X.w t _ us'.toArray ?_;unfold Program.built;rw[hi,hu];simp only[hz',hp];simpa using hfill
theorem s_build_array {ev:Operand→D} {va:Operand→Value} (hev:∀x,RelD X (ev x) (va x)) {t:TypeId} {n:Nat} {e:TypeId} (hu:P.underlying t=some (.array n e)) {z cs:List D} (hz:zeroD P t=some z) (parts:Array (Nat×Operand))
  {ie:TypeInfo} (hie:P.info? e=some ie) (hf:fillD (fun i=>some (i*ie.size,ie.size)) z (parts.toList.map fun p=>(p.1,ev p.2))=some cs):
  ∃v,(Instr.build t (parts.map fun p=>(p.1,va p.2))).run P X.w= .ok v X.w∧RelD X (.agg cs) v:=by
 obtain⟨i,zv,hi,hz',hs,h1,rfl⟩:=zeroD_some hz;obtain⟨us',hfill,hr,_⟩:=fill_rel hev (fun i=>some (i*ie.size,ie.size)) parts.toList _ cs _ (relDs_v zv.cells.toList) h1 hf;refine⟨.agg us'.toArray,?_,by simp only[RelD];exact⟨us',rfl,hr⟩⟩;refine run_build X.w t _ us'.toArray ?_;unfold Program.built;rw[hi,hu];simp only[hz',hie];simpa using hfill
theorem range_mod (z:List Value) (s:Nat) (hs:z.length=s) (h0:s≠0):∀n,(List.range (n*s)).map (fun j=>z.toArray[j%z.toArray.size]!)=(List.replicate n z).flatten
 |0=>by simp
 |n+1=>by
  rw[Nat.succ_mul,List.range_add,List.map_append,range_mod z s hs h0 n,List.replicate_succ',List.flatten_append];congr 1
  simp only[List.flatten_cons,List.flatten_nil,List.append_nil,List.map_map];apply List.ext_getElem?;intro j;by_cases hj:j<s
  ·have:(n*s+j)%s=j:=by rw[Nat.add_comm,Nat.add_mul_mod_self_right,Nat.mod_eq_of_lt hj]
   simp[hj,this,hs,gQ (show j<z.length by omega)]
  ·simp[hj,List.getElem?_eq_none (show z.length≤j by omega)]
theorem relDs_replicate {cs:List D} {us:List Value} (h:RelDs X cs us):∀n,RelDs X (List.replicate n cs).flatten (List.replicate n us).flatten
 |0=>by simp only[List.replicate_zero,List.flatten_nil,RelDs]
 |n+1=>by
  simp only[List.replicate_succ,List.flatten_cons];exact relDs_append.2 ⟨_,_,rfl,h,relDs_replicate h n⟩
theorem relD_new {id:Nat} (hid:id<X.H.length) {e:TypeId} {t:Ty} {xs:List t.El} {w':World} {n len c:Nat} (cap:Option Nat) (hlen:len≤xs.length) (hc:len≤c) (hcap:∀k,cap=some k→c=k) (hcap2:cap=none→xs.length≤c)
  (g:Nat) (hfit:c*t.size≤n):
  RelD (X.put id (.live (.data e t xs)) (some (.of g 0 n)) X.S w') (.own id 0 len cap) (.slice (some ⟨g,0,none⟩) len c):=by
 simp only[RelD];rw[slot_put X _ _ _ _ hid];refine⟨by omega,_,c,rfl,hc,by simp,hcap,fun h=>by have:=hcap2 h;omega,.inr ⟨⟨g,0,n⟩,by simp[Ctx.pl,Ctx.put],by simp,by simpa using hfit⟩⟩
theorem s_buildSlice (M:Mem b X) {nid:Nat} (hf:slot X.H nid= .free) (hl:nid<X.H.length) (hn:b.n≤nid) (rd:Nat→Option Row) (hrd:∀id r,rd id=some r→hget X.H id=some r)
  {ev:Operand→D} {va:Operand→Value} (hev:∀x,RelD X (ev x) (va x)) {t e:TypeId} (hu:P.underlying t=some (.slice e)) {ty:Ty} {z:List D} (hz:zeroD P e=some z) (len:Nat) (parts:Array (Nat×Operand))
  (hsz:ty.size=P.cellsOf e) (h0:ty.size≠0) (hsmall:len*ty.size≤4096) {cs:List D} (hfill:fillD (fun i=>some (i*ty.size,ty.size)) (List.replicate len z).flatten (parts.toList.map fun p=>(p.1,ev p.2))=some cs)
  {xs:List ty.El} (hxs:elems rd ty len cs=some xs) (hnd:nodupB (killIds cs)=true):
  ∃v X',(Instr.buildSlice t len (parts.map fun p=>(p.1,va p.2))).run P X.w= .ok v X'.w∧Mem b X'∧X'.H=setWrites (X.H.set nid (.live (.data e ty xs))) (kills cs)∧Le X X'∧RelD X' (.own nid 0 len (some len)) v:=by
 obtain⟨i,zv,hi,hz',hs,h1,rfl⟩:=zeroD_some hz;have hsz':ty.size=i.size:=by rw[hsz];simp[Program.cellsOf,hi]
 have hzl:zv.cells.toList.length=ty.size:=by rw[hsz'];simpa using hs
 obtain⟨us',hfill',hr,ho⟩:=fill_rel hev (fun i=>some (i*ty.size,ty.size)) parts.toList _ cs _ (relDs_replicate (relDs_v zv.cells.toList) len) (by
  intro u hu;simp only[List.mem_flatten,List.mem_replicate] at hu;obtain⟨l,⟨_,rfl⟩,hu⟩:=hu;exact h1 u hu) hfill
 have hlive:=(elems_rel (S':=fun _=>True) M (fun _ _=>trivial) rd hrd ty len cs xs us' hxs hr (fun _ _ _ _ _ _=>trivial)).2.2.1;obtain⟨Y,MY,LY,hYH,hYρ,hYw,hYS,hYb,_⟩:=mem_kills (killIds cs) M hnd hlive;obtain⟨hreps,hxl,_,_⟩:=elems_rel M hYS rd hrd ty len cs xs us' hxs hr hYb;rw[←hYw] at hreps;have hne:nid∉killIds cs:=fun h=>by
  have:=hlive nid h;apply this;unfold hget;rw[hf]
 have hfY:slot Y.H nid= .free:=by
  rw[hYH];show slot (setWrites X.H (kills cs)) nid=_;rw[slot_setWrites _ _ _ (kills_ne hne),hf]
 have hlY:nid<Y.H.length:=by rw[hYH,setWrites_length];exact hl
 have husl:us'.length=len*ty.size:=by rw[reps_length hreps,hxl]
 have hc:Content Y (.data e ty xs) (.of Y.w.heap.size 0 us'.toArray.size) us'.toArray e:=⟨rfl,rfl,us',hreps,ho,by simp,by simp⟩;obtain⟨M',L'⟩:=mem_alloc MY hfY hlY hn (.data e ty xs) us'.toArray e rfl hc;refine⟨.slice (some ⟨Y.w.heap.size,0,none⟩) len len,_,?_,M',?_,LY.trans L',relD_new hlY (some len) (by omega) (Nat.le_refl _) (by simp) (by simp) _ (by simp[husl])⟩
 ·have hrange:((Array.range (len*i.size)).map (fun j=>zv.cells[j%zv.cells.size]!))=(List.replicate len zv.cells.toList).flatten.toArray:=by
   have:=range_mod zv.cells.toList ty.size hzl h0 len;rw[←this,hsz'];apply Array.ext';simp
  have hsm:¬(2^24<len*i.size):=by rw[←hsz'];omega
  have hfl:Instr.fill (fun j=>some (j*i.size,i.size)) (List.replicate len zv.cells.toList).flatten.toArray (parts.toList.map fun p=>(p.1,va p.2))=some us'.toArray:=by rw[←hsz'];exact hfill'
  by_cases hl0:len*i.size=0
  ·have hlen0:len=0:=by
    rcases Nat.mul_eq_zero.1 hl0 with h|h
    ·exact h
    ·exact absurd (hsz'.trans h) h0
   subst hlen0;simp at hfl;simp[Instr.buildSlice,run_underlying hu,run_sizeOf' hi,hfl,newRow,Array.range_zero',hYw];rfl
  ·simp[Instr.buildSlice,run_underlying hu,run_sizeOf' hi,zeroValue,typeInfo,hi,hz',hl0,hsm,hrange,hfl,newRow,hYw];rfl
 ·show Y.H.set nid _=_;rw[hYH];exact(setWrites_set _ _ _ _ (kills_ne hne)).symm
theorem s_buildSlice_box (M:Mem b X) {nid:Nat} (hf:slot X.H nid= .free) (hl:nid<X.H.length) (hn:b.n≤nid)
  {ev:Operand→D} {va:Operand→Value} (hev:∀x,RelD X (ev x) (va x)) {t e:TypeId} (hu:P.underlying t=some (.slice e)) {sz:Nat} {z:List D} (hz:zeroD P e=some z) (len:Nat) (parts:Array (Nat×Operand))
  (hsz:sz=P.cellsOf e) (h0:sz≠0) (hsmall:len*sz≤4096) {cs:List D} (hfill:fillD (fun i=>some (i*sz,sz)) (List.replicate len z).flatten (parts.toList.map fun p=>(p.1,ev p.2))=some cs):
  ∃v X',(Instr.buildSlice t len (parts.map fun p=>(p.1,va p.2))).run P X.w= .ok v X'.w∧Mem b X'∧X'.H=X.H.set nid (.live (.box e cs))∧Le X X'∧RelD X' (.bsl nid len sz) v:=by
 obtain⟨i,zv,hi,hz',hs,h1,rfl⟩:=zeroD_some hz;have hsz':sz=i.size:=by rw[hsz];simp[Program.cellsOf,hi]
 have hzl:zv.cells.toList.length=sz:=by rw[hsz'];simpa using hs
 obtain⟨us',hfill',hr,ho⟩:=fill_rel hev (fun i=>some (i*sz,sz)) parts.toList _ cs _ (relDs_replicate (relDs_v zv.cells.toList) len) (by
  intro u hu;simp only[List.mem_flatten,List.mem_replicate] at hu;obtain⟨l,⟨_,rfl⟩,hu⟩:=hu;exact h1 u hu) hfill
 have hc:Content X (.box e cs) (.of X.w.heap.size 0 us'.toArray.size) us'.toArray e:=⟨rfl,rfl,us',rfl,hr,ho⟩;obtain⟨M',L'⟩:=mem_alloc M hf hl hn (.box e cs) us'.toArray e rfl hc;refine⟨.slice (some ⟨X.w.heap.size,0,none⟩) len len,_,?_,M',rfl,L',?_⟩
 ·have hrange:((Array.range (len*i.size)).map (fun j=>zv.cells[j%zv.cells.size]!))=(List.replicate len zv.cells.toList).flatten.toArray:=by
   have:=range_mod zv.cells.toList sz hzl h0 len;rw[←this,hsz'];apply Array.ext';simp
  have hsm:¬(2^24<len*i.size):=by rw[←hsz'];omega
  have hfl:Instr.fill (fun j=>some (j*i.size,i.size)) (List.replicate len zv.cells.toList).flatten.toArray (parts.toList.map fun p=>(p.1,va p.2))=some us'.toArray:=by rw[←hsz'];exact hfill'
  by_cases hl0:len*i.size=0
  ·have hlen0:len=0:=by
    rcases Nat.mul_eq_zero.1 hl0 with h|h
    ·exact h
    ·exact absurd (hsz'.trans h) h0
   subst hlen0;simp at hfl;simp[Instr.buildSlice,run_underlying hu,run_sizeOf' hi,hfl,newRow,Array.range_zero'];rfl
  ·simp[Instr.buildSlice,run_underlying hu,run_sizeOf' hi,zeroValue,typeInfo,hi,hz',hl0,hsm,hrange,hfl,newRow];rfl
 ·simp only[RelD];rw[slot_put X _ _ _ _ hl];exact⟨_,by simp[Ctx.pl,Ctx.put];rfl,rfl⟩
end
theorem add_add' (a:Addr) (m j:Nat):(a.add m).add j=a.add (m+j):=by
 unfold Addr.add;by_cases h1:m=0<;>by_cases h2:j=0<;>simp[h1,h2,Nat.add_assoc]
section
variable {P:Program} {b:Beg} {X:Ctx}
theorem s_makeSlice (M:Mem b X) {nid:Nat} (hf:slot X.H nid= .free) (hl:nid<X.H.length) (hn:b.n≤nid) (rd:Nat→Option Row) (hrd:∀id r,rd id=some r→hget X.H id=some r)
  {t e:TypeId} (hu:P.underlying t=some (.slice e)) {ty:Ty} {z:List D} (hz:zeroD P e=some z) (hsz:ty.size=P.cellsOf e) (h0:ty.size≠0) {y:ty.El} (hy:ty.ofCells rd z=some y)
  (kl kc:IntKind) (l c:Int) (h1:0≤l) (h2:l≤c) (h3:c≤9223372036854775807) (h4:c.toNat*P.bytesOf e≤281474976710656):
  ∃v X',(Instr.makeSlice t (.int kl l) (.int kc c)).run P X.w= .ok v X'.w∧Mem b X'∧X'.H=X.H.set nid (.live (.data e ty (List.replicate c.toNat y)))∧Le X X'∧RelD X' (.own nid 0 l.toNat (some c.toNat)) v:=by
 obtain⟨i,zv,hi,hz',hs,ho,rfl⟩:=zeroD_some hz;have hsz':ty.size=i.size:=by rw[hsz];simp[Program.cellsOf,hi]
 have hzl:zv.cells.toList.length=ty.size:=by rw[hsz'];simpa using hs
 have hE:=(ofCells_rel M (fun _ h=>h) rd hrd ty _ _ _ hy (relDs_v zv.cells.toList) (fun id hid=>by
  rw[mem_killIds] at hid;obtain⟨_,_,_,hm⟩:=hid;simp at hm)).1
 have hreps:=Reps.replicate hE c.toNat;have hb':(i.bytes:Int)*c≤281474976710656:=by
  have e1:P.bytesOf e=i.bytes:=by simp[Program.bytesOf,hi]
  rw[e1] at h4;have e2:((c.toNat*i.bytes:Nat):Int)=(i.bytes:Int)*c:=by
   rw[Int.natCast_mul,Int.toNat_of_nonneg (by omega),Int.mul_comm]
  omega
 have hr:=run_make (P:=P) X.w t e i zv hu hi hz' kl kc l c h1 h2 hb' h3;have hcells:madeCells zv.cells (c.toNat*i.size)=(List.replicate c.toNat zv.cells.toList).flatten.toArray:=by
  have:=range_mod zv.cells.toList ty.size hzl h0 c.toNat;rw[←this,hsz',madeCells];apply Array.ext';simp
 rw[hcells] at hr;have hul:=reps_length hreps;simp only[List.length_replicate] at hul;have hc:Content X (.data e ty (List.replicate c.toNat y)) (.of X.w.heap.size 0 (List.replicate c.toNat zv.cells.toList).flatten.toArray.size) (List.replicate c.toNat zv.cells.toList).flatten.toArray e:=by
  refine⟨rfl,rfl,_,hreps,?_,by simp,by simp⟩;intro u hu;simp only[List.mem_flatten,List.mem_replicate] at hu;obtain⟨l,⟨_,rfl⟩,hu⟩:=hu;exact ho u hu
 obtain⟨M',L'⟩:=mem_alloc M hf hl hn (.data e ty (List.replicate c.toNat y)) _ e rfl hc;refine⟨_,_,hr,M',rfl,L',?_⟩;refine relD_new hl (some c.toNat) (by simp;omega) (by omega) (by simp) (by simp) _ ?_;rw[List.size_toArray,hul];exact Nat.le_refl _
theorem run_slice_gen {t e:TypeId} {i:TypeInfo} (hu:P.underlying t=some (.slice e)) (hi:P.info? e=some i) (w:World) (a:Option Addr) (len cap:Nat) (lo hi' mx:Option Value) (l h m:Int)
  (hlo:(lo=none∧l=0)∨∃k,lo=some (.int k l)) (hhi:(hi'=none∧h=len)∨∃k,hi'=some (.int k h)) (hmx:(mx=none∧m=cap)∨(hi'≠none∧∃k,mx=some (.int k m)))
  (h0:0≤l) (h1:l≤h) (h2:h≤m) (h3:m≤cap):
  (Instr.sliceAt t (.slice a len cap) lo hi' mx).run P w= .ok (.slice (if m.toNat=l.toNat then a else a.map (·.add (l.toNat*i.size))) (h.toNat-l.toNat) (m.toNat-l.toNat)) w:=by
 have eh:(h.toNat:Int)=h:=Int.toNat_of_nonneg (by omega);have em:(m.toNat:Int)=m:=Int.toNat_of_nonneg (by omega);have hh0:0≤h:=by omega
 have hm0:0≤m:=by omega
 have hc:h≤(cap:Int):=by omega
 rcases hlo with⟨rfl,rfl⟩|⟨kl,rfl⟩<;>rcases hhi with⟨rfl,rfl⟩|⟨kh,rfl⟩<;>rcases hmx with⟨rfl,rfl⟩|⟨hne,km,rfl⟩<;>
  first
   |exact absurd rfl hne
   |(simp[Instr.sliceAt,Instr.slice,run_underlying hu,run_sizeOf' hi,Instr.sliceBounds,run_sliceBound,eh,em,h0,h1,h2,h3,hh0,hm0,hc];done)
theorem run_slice_str {t:TypeId} (hu:P.underlying t=some .string) (w:World) (s:ByteArray) (lo hi':Option Value) (l h:Int)
  (hlo:(lo=none∧l=0)∨∃k,lo=some (.int k l)) (hhi:(hi'=none∧h=s.size)∨∃k,hi'=some (.int k h)) (h0:0≤l) (h1:l≤h) (h2:h≤s.size):
  (Instr.sliceAt t (.string s) lo hi' none).run P w= .ok (.string (s.extract l.toNat h.toNat)) w:=by
 have eh:(h.toNat:Int)=h:=Int.toNat_of_nonneg (by omega);have hh0:0≤h:=by omega
 rcases hlo with⟨rfl,rfl⟩|⟨kl,rfl⟩<;>rcases hhi with⟨rfl,rfl⟩|⟨kh,rfl⟩<;>
  (simp[Instr.sliceAt,Instr.slice,run_underlying hu,Instr.sliceBounds,run_sliceBound,eh,h0,h1,h2,hh0])
theorem optInt_some {ev:Operand→D} {va:Operand→Value} (hev:∀x,RelD X (ev x) (va x)) {o:Option Operand} {r:Option Int} (h:optInt (o.map ev)=some r) (d:Int):
  (o.map va=none∧r.getD d=d∧r=none)∨∃k n,o.map va=some (.int k n)∧r=some n:=by
 cases o with
 |none=>simp[optInt] at h;subst h;exact .inl ⟨rfl,rfl,rfl⟩
 |some x=>
  simp only[Option.map_some,optInt] at h;unfold numD at h;split at h
  ·rename_i k n heq;simp only[Option.map_some,sI] at h;subst h;have:=hev x;rw[heq] at this;simp only[RelD] at this;exact .inr ⟨k,n,by rw[Option.map_some,this],rfl⟩
  ·simp at h
theorem relD_piece {id off len:Nat} {cap cap':Option Nat} {A:Option Addr} {c:Nat} {e:TypeId} {ty:Ty} {xs:List ty.El} (h:RelD X (.own id off len cap) (.slice A len c)) (hr:hget X.H id=some (.data e ty xs))
  (l hh m:Nat) (h1:l≤hh) (h2:hh≤m) (h3:m≤c) (h4:off+hh≤xs.length) (hcap:∀k,cap'=some k→m-l=k) (hcap2:cap'=none→xs.length≤off+m):
  RelD X (.own id (off+l) (hh-l) cap') (.slice (if m=l then A else A.map (·.add (l*ty.size))) (hh-l) (m-l)):=by
 simp only[RelD] at h⊢;rw[hget_live.1 hr] at h⊢;obtain⟨hlen,A',c',e1,hc,hA,hk,hk2,hplace⟩:=h;simp only[Value.slice.injEq,true_and] at e1;obtain⟨rfl,rfl⟩:=e1;refine⟨by omega,_,_,rfl,by omega,?_,hcap,fun h=>by have:=hcap2 h;omega,?_⟩
 ·intro hn;split at hn
  ·have:=hA hn;omega
  ·simp at hn;have:=hA hn;omega
 ·by_cases hm:m=l
  ·left;omega
  ·right
   rcases hplace with h0|⟨lc,hl1,hl2,hl3⟩
   ·omega
   ·refine⟨lc,hl1,?_,?_⟩
    ·rw[if_neg hm,hl2,Option.map_some,add_plain,Nat.add_assoc,←Nat.add_mul]
    ·refine Nat.le_trans (Nat.add_le_add_left (Nat.mul_le_mul_right _ ?_) _) hl3;omega
theorem s_slice_own {t e:TypeId} {i:TypeInfo} (hu:P.underlying t=some (.slice e)) (hi:P.info? e=some i) {id off len:Nat} {cap cap':Option Nat} {u:Value} (h:RelD X (.own id off len cap) u) {et:TypeId} {ty:Ty} {xs:List ty.El}
  (hr:hget X.H id=some (.data et ty xs)) (hsz:ty.size=i.size) (lo hi' mx:Option Value) (l h' m:Int)
  (hlo:(lo=none∧l=0)∨∃k,lo=some (.int k l)) (hhi:(hi'=none∧h'=len)∨∃k,hi'=some (.int k h')) (hmx:mx=none∨(hi'≠none∧∃k,mx=some (.int k m)))
  (h0:0≤l) (h1:l≤h')
  (hcase:(mx=none∧cap=none∧cap'=none∧h'≤((xs.length-off:Nat):Int))∨(mx=none∧∃c,cap=some c∧cap'=some (c-l.toNat)∧h'≤(c:Int)∧off+c≤xs.length)∨
   (mx≠none∧cap=none∧cap'=some (m.toNat-l.toNat)∧h'≤m∧m≤((xs.length-off:Nat):Int))∨(mx≠none∧∃c,cap=some c∧cap'=some (m.toNat-l.toNat)∧h'≤m∧m≤(c:Int)∧off+c≤xs.length)):
  ∃v,(Instr.sliceAt t u lo hi' mx).run P X.w= .ok v X.w∧RelD X (.own id (off+l.toNat) (h'.toNat-l.toNat) cap') v:=by
 have h9:=h;simp only[RelD] at h9;rw[hget_live.1 hr] at h9;obtain⟨hlen,A,c,e1,hc,hA,hk,hk2,_⟩:=h9;subst e1;rcases hcase with⟨rfl,rfl,rfl,hh⟩|⟨rfl,c',rfl,rfl,hh,ho⟩|⟨hne,rfl,rfl,hh,hm⟩|⟨hne,c',rfl,rfl,hh,hm,ho⟩
 ·have:=hk2 rfl;refine⟨_,run_slice_gen hu hi X.w A len c lo hi' none l h' c hlo hhi (.inl ⟨rfl,rfl⟩) h0 h1 (by omega) (Int.le_refl _),?_⟩;rw[←hsz];exact relD_piece h hr l.toNat h'.toNat _ (by omega) (by omega) (by simp) (by omega) (by simp) (fun _=>by simp;omega)
 ·have:=hk c' rfl;subst this;refine⟨_,run_slice_gen hu hi X.w A len c lo hi' none l h' c hlo hhi (.inl ⟨rfl,rfl⟩) h0 h1 (by omega) (Int.le_refl _),?_⟩;rw[←hsz];exact relD_piece h hr l.toNat h'.toNat _ (by omega) (by omega) (by simp) (by omega) (by simp) (by simp)
 ·have:=hk2 rfl;have hmx':=hmx.resolve_left hne;refine⟨_,run_slice_gen hu hi X.w A len c lo hi' mx l h' m hlo hhi (.inr hmx') h0 h1 hh (by omega),?_⟩;rw[←hsz];exact relD_piece h hr l.toNat h'.toNat _ (by omega) (by omega) (by omega) (by omega) (by simp) (by simp)
 ·have:=hk c' rfl;subst this;have hmx':=hmx.resolve_left hne;refine⟨_,run_slice_gen hu hi X.w A len c lo hi' mx l h' m hlo hhi (.inr hmx') h0 h1 hh (by omega),?_⟩;rw[←hsz];exact relD_piece h hr l.toNat h'.toNat _ (by omega) (by omega) (by omega) (by omega) (by simp) (by simp)
theorem s_slice_ro {t e:TypeId} {i:TypeInfo} (hu:P.underlying t=some (.slice e)) (hi:P.info? e=some i) {nn cl:Bool} {ty:Ty} {xs:List ty.El} {u:Value} (h:RelD X (.sl nn cl ty xs) u)
  (hsz:ty.size=i.size) (lo hi' mx:Option Value) (l h' m:Int)
  (hlo:(lo=none∧l=0)∨∃k,lo=some (.int k l)) (hhi:(hi'=none∧h'=xs.length)∨∃k,hi'=some (.int k h')) (hmx:mx=none∨(hi'≠none∧∃k,mx=some (.int k m)))
  (h0:0≤l) (h1:l≤h') (hb:h'≤(xs.length:Int)) (cl':Bool) (hcase:(mx=none∧cl'=false)∨(mx≠none∧h'=m)):
  ∃v,(Instr.sliceAt t u lo hi' mx).run P X.w= .ok v X.w∧RelD X (.sl nn cl' ty ((xs.drop l.toNat).take (h'.toNat-l.toNat))) v:=by
 simp only[RelD] at h;obtain⟨A,c,us,e1,h2,h3,h4,h5,h6,h7⟩:=h;subst e1;have hlen:((xs.drop l.toNat).take (h'.toNat-l.toNat)).length=h'.toNat-l.toNat:=by simp;omega
 have key:∀m':Nat,h'.toNat≤m'→m'≤c→(cl'=true→m'=h'.toNat)→
   RelD X (.sl nn cl' ty ((xs.drop l.toNat).take (h'.toNat-l.toNat))) (.slice (if m'=l.toNat then A else A.map (·.add (l.toNat*i.size))) (h'.toNat-l.toNat) (m'-l.toNat)):=by
  intro m' hm1 hm2 hm3;simp only[RelD];refine⟨_,_,(us.drop (l.toNat*ty.size)).take ((h'.toNat-l.toNat)*ty.size),by rw[hlen],by omega,?_,?_,?_,(h6.drop (RelE_length ty) _).take (RelE_length ty) _,?_⟩
  ·intro hn;split at hn
   ·have:=h3 hn;omega
   ·simp at hn;have:=h3 hn;omega
  ·intro hn hA;split at hA
   ·exact h4 hn hA
   ·simp at hA;exact h4 hn hA
  ·intro hc;rw[hm3 hc,hlen]
  ·intro j u hj;have hj2:j< (h'.toNat-l.toNat)*ty.size:=by
    rw[List.getElem?_take] at hj;split at hj
    ·assumption
    ·cases hj
   have hj':us[l.toNat*ty.size+j]? =some u:=by
    rw[List.getElem?_take,if_pos hj2,List.getElem?_drop] at hj;exact hj
   obtain⟨a,ea,hS,hcell⟩:=h7 _ _ hj';have hne:m'≠l.toNat:=by
    intro e;have:h'.toNat-l.toNat=0:=by omega
    rw[this] at hj2;omega
   refine⟨a.add (l.toNat*i.size),by rw[if_neg hne,ea];rfl,by rw[add_block];exact hS,?_⟩;rw[←hsz,add_add'];exact hcell
 rcases hcase with⟨rfl,rfl⟩|⟨hne,rfl⟩
 ·refine⟨_,run_slice_gen hu hi X.w A _ c lo hi' none l h' c hlo hhi (.inl ⟨rfl,rfl⟩) h0 h1 (by omega) (Int.le_refl _),?_⟩;have:=key c (by omega) (Nat.le_refl _) (by simp);simpa using this
 ·refine⟨_,run_slice_gen hu hi X.w A _ c lo hi' mx l h' h' hlo hhi (.inr (hmx.resolve_left hne)) h0 h1 (Int.le_refl _) (by omega),?_⟩;exact key h'.toNat (Nat.le_refl _) (by omega) (fun _=>rfl)
end
section
variable {P:Program} {b:Beg} {X:Ctx}
theorem cellsOf_info {t:TypeId} (h:P.cellsOf t≠0):∃i,P.info? t=some i∧P.cellsOf t=i.size:=by
 unfold Program.cellsOf at h;cases hi:P.info? t with
 |none=>rw[hi] at h;simp at h
 |some i=>exact⟨i,rfl,by simp[Program.cellsOf,hi]⟩
theorem run_fieldPlace {a:Addr} {f:Field} (h:P.cellsOf f.type≠0) (w:World):(fieldPlace a f).run P w= .ok (a.add f.offset) w:=by
 obtain⟨i,hi,hs⟩:=cellsOf_info h;rw[hs] at h;simp[fieldPlace,run_sizeOf' hi,h]
theorem s_field_ptr (M:Mem b X) {t:TypeId} {fs:Array Field} (hu:P.underlying t=some (.struct fs)) {f:Nat} {fd:Field} (hf:fs[f]? =some fd) (h0:P.cellsOf fd.type≠0) {id i off:Nat} {u:Value} (h:RelD X (.ptr id i off) u) {r:Row} (hr:hget X.H id=some r):
  ∃v,(Instr.fieldAt t u f).run P X.w= .ok v X.w∧RelD X (.ptr id i (off+fd.offset)) v:=by
 simp only[RelD] at h⊢;rw[hget_live.1 hr] at h⊢;obtain⟨l,hl,e⟩:=h;subst e;cases r with
 |box _ _=>
  refine⟨.pointer (some ⟨l.b,l.o+off+fd.offset,none⟩),?_,l,hl,?_⟩
  ·simp[Instr.fieldAt,run_underlying hu,hf,Instr.sureAddr,run_fieldPlace h0,add_plain]
  ·simp[Nat.add_assoc]
 |data _ t' _=>
  refine⟨.pointer (some ⟨l.b,l.o+(i*t'.size+off)+fd.offset,none⟩),?_,l,hl,?_⟩
  ·simp[Instr.fieldAt,run_underlying hu,hf,Instr.sureAddr,run_fieldPlace h0,add_plain]
  ·simp[Nat.add_assoc]
 |nest k _ _=>
  refine⟨.pointer (some ⟨l.b,l.o+(i*k.t.size+off)+fd.offset,none⟩),?_,l,hl,?_⟩
  ·simp[Instr.fieldAt,run_underlying hu,hf,Instr.sureAddr,run_fieldPlace h0,add_plain]
  ·simp[Nat.add_assoc]
theorem rptr_drop {ds:List D} {a:Addr} {us:List Value} (n:Nat) (h1:RelDs X ds us) (h2:At X.S X.w (some a) us):RelD X (.rptr (ds.drop n)) (.pointer (some (a.add n))):=by
 simp only[RelD];refine⟨_,us.drop n,rfl,relDs_drop n h1,fun j u hj=> ?_⟩;rw[List.getElem?_drop] at hj;obtain⟨a',e,hS,hc⟩:=h2 _ _ hj;cases e;exact⟨_,rfl,by rw[add_block];exact hS,by rw[add_add'];exact hc⟩
theorem s_field_ro {t:TypeId} {fs:Array Field} (hu:P.underlying t=some (.struct fs)) {f:Nat} {fd:Field} (hf:fs[f]? =some fd) (h0:P.cellsOf fd.type≠0) {ds:List D} {u:Value} (h:RelD X (.rptr ds) u):
  ∃v,(Instr.fieldAt t u f).run P X.w= .ok v X.w∧RelD X (.rptr (ds.drop fd.offset)) v:=by
 simp only[RelD] at h;obtain⟨a,us,e,h1,h2⟩:=h;subst e;exact⟨_,by simp[Instr.fieldAt,run_underlying hu,hf,Instr.sureAddr,run_fieldPlace h0],rptr_drop fd.offset h1 h2⟩
theorem run_indexAt_sl {t e:TypeId} {i:TypeInfo} (hu:P.underlying t=some (.slice e)) (hi:P.info? e=some i) (a:Addr) (len c:Nat) (k:IntKind) (n:Int) (h0:0≤n) (h1:n<len) (w:World):
  (Instr.indexAt t (.slice (some a) len c) (.int k n)).run P w= .ok (.pointer (some (a.add (n.toNat*i.size)))) w:=by
 simp[Instr.indexAt,run_underlying hu,asIntOf,h0,h1,run_sizeOf' hi]
theorem run_indexAt_arr {t e:TypeId} {len:Nat} {i:TypeInfo} (hu:P.underlying t=some (.array len e)) (hi:P.info? e=some i) (a:Addr) (k:IntKind) (n:Int) (h0:0≤n) (h1:n<len) (w:World):
  (Instr.indexAt t (.pointer (some a)) (.int k n)).run P w= .ok (.pointer (some (a.add (n.toNat*i.size)))) w:=by
 simp[Instr.indexAt,run_underlying hu,asIntOf,h0,h1,run_sizeOf' hi,Instr.sureAddr]
theorem s_index_own {t e:TypeId} {i:TypeInfo} (hu:P.underlying t=some (.slice e)) (hi:P.info? e=some i) {id off len:Nat} {cap:Option Nat} {u:Value} (h:RelD X (.own id off len cap) u) {r:Row} {sz m:Nat}
  (hr:hget X.H id=some r) (hd:r.dims=some (sz,m)) (hsz:sz=i.size) (k:IntKind) (n:Int) (h0:0≤n) (h1:n< (len:Int)):
  ∃v,(Instr.indexAt t u (.int k n)).run P X.w= .ok v X.w∧RelD X (.ptr id (off+n.toNat) 0) v:=by
 simp only[RelD] at h⊢;rw[hget_live.1 hr] at h⊢;simp only at h⊢;rw[hd] at h⊢;obtain⟨hlen,A,c,e1,hc,_,_,_,hplace⟩:=h;subst e1;obtain⟨l,hl,hA,_⟩:=hplace.resolve_left (by omega);subst hA;refine⟨_,run_indexAt_sl hu hi _ len c k n h0 h1 X.w,l,hl,?_⟩;rw[add_plain];simp[Nat.add_mul,Nat.add_assoc,hsz]
theorem s_index_ro {t e:TypeId} {i:TypeInfo} (hu:P.underlying t=some (.slice e)) (hi:P.info? e=some i) {nn cl:Bool} {ty:Ty} {xs:List ty.El} {u:Value} (h:RelD X (.sl nn cl ty xs) u) (hsz:ty.size=i.size)
  (k:IntKind) (n:Int) (h0:0≤n) (h1:n< (xs.length:Int)):
  ∃v,(Instr.indexAt t u (.int k n)).run P X.w= .ok v X.w∧RelD X (.rptr (ty.cells (xs.getD n.toNat ty.dflt))) v:=by
 simp only[RelD] at h⊢;obtain⟨A,c,us,e1,h2,h3,_,_,h6,h7⟩:=h;subst e1;cases A with
 |none=>have:=h3 rfl;omega
 |some a=>
  refine⟨_,run_indexAt_sl hu hi a _ c k n h0 h1 X.w,_,(us.drop (n.toNat*ty.size)).take ty.size,rfl,?_,?_⟩
  ·have hx:xs[n.toNat]? =some (xs.getD n.toNat ty.dflt):=by
    have:n.toNat<xs.length:=by omega
    simp[gE,this]
   exact relE_cells X ty _ _ (h6.get (RelE_length ty) hx)
  ·intro j u hj;rw[List.getElem?_take] at hj;split at hj
   ·rw[List.getElem?_drop] at hj;obtain⟨a',ea,hS,hc⟩:=h7 _ _ hj;cases ea;refine⟨_,rfl,by rw[add_block];exact hS,?_⟩;rw[add_add',←hsz];exact hc
   ·cases hj
theorem s_index_box {t e:TypeId} {len:Nat} {i:TypeInfo} (hu:P.underlying t=some (.array len e)) (hi:P.info? e=some i) {id j off:Nat} {u:Value} (h:RelD X (.ptr id j off) u) {bt:TypeId} {ds:List D} (hr:hget X.H id=some (.box bt ds))
  (k:IntKind) (n:Int) (h0:0≤n) (h1:n< (len:Int)):
  ∃v,(Instr.indexAt t u (.int k n)).run P X.w= .ok v X.w∧RelD X (.ptr id j (off+n.toNat*i.size)) v:=by
 simp only[RelD] at h⊢;rw[hget_live.1 hr] at h⊢;obtain⟨l,hl,e1⟩:=h;subst e1;refine⟨_,run_indexAt_arr hu hi _ k n h0 h1 X.w,l,hl,?_⟩;rw[add_plain];simp[Nat.add_assoc]
theorem s_index_bsl {t e:TypeId} {i:TypeInfo} (hu:P.underlying t=some (.slice e)) (hi:P.info? e=some i) {id len:Nat} {u:Value} (h:RelD X (.bsl id len i.size) u) {bt:TypeId} {ds:List D} (hr:hget X.H id=some (.box bt ds))
  (k:IntKind) (n:Int) (h0:0≤n) (h1:n< (len:Int)):
  ∃v,(Instr.indexAt t u (.int k n)).run P X.w= .ok v X.w∧RelD X (.ptr id 0 (n.toNat*i.size)) v:=by
 simp only[RelD] at h⊢;rw[hget_live.1 hr] at h⊢;obtain⟨l,hl,e1⟩:=h;subst e1;exact⟨_,run_indexAt_sl hu hi _ len len k n h0 h1 X.w,l,hl,by rw[add_plain]⟩
theorem s_index_arro {t e:TypeId} {len:Nat} {i:TypeInfo} (hu:P.underlying t=some (.array len e)) (hi:P.info? e=some i) {ds:List D} {u:Value} (h:RelD X (.rptr ds) u) (k:IntKind) (n:Int) (h0:0≤n) (h1:n< (len:Int)):
  ∃v,(Instr.indexAt t u (.int k n)).run P X.w= .ok v X.w∧RelD X (.rptr (ds.drop (n.toNat*i.size))) v:=by
 simp only[RelD] at h;obtain⟨a,us,e1,h2,h3⟩:=h;subst e1;exact⟨_,run_indexAt_arr hu hi _ k n h0 h1 X.w,rptr_drop _ h2 h3⟩
theorem intsOf_rel:∀{cs:List D} {k:IntKind} {ns:List Int} {us:List Value},intsOf cs=some (k,ns)→RelDs X cs us→us=ns.map (.int k ·)
 | [],k,ns,us,h,_=>by simp[intsOf] at h
 |d::ds,k,ns,us,h,hr=>by
  simp only[RelDs] at hr;obtain⟨u,us',rfl,h1,h2⟩:=hr;unfold intsOf at h;split at h
  ·rename_i heq;cases heq;simp only[sI,Prod.mk.injEq] at h;obtain⟨rfl,rfl⟩:=h;simp only[RelD] at h1;simp only[RelDs] at h2;rw[h1,h2];rfl
  ·rename_i heq;cases heq;split at h
   ·rename_i k' ns' hi;split at h
    ·rename_i hk;simp only[sI,Prod.mk.injEq] at h;obtain⟨rfl,rfl⟩:=h;simp only[RelD] at h1;rw[h1,intsOf_rel hi h2,hk];rfl
    ·cases h
   ·cases h
  ·cases h
theorem s_index_tab {t e:TypeId} {len:Nat} {i:TypeInfo} (hu:P.underlying t=some (.array len e)) (hi:P.info? e=some i) (hsz:i.size=P.cellsOf e) {ds:List D} {u:Value} (h:RelD X (.rptr ds) u) {kk:IntKind} {ns:List Int} (ht:tabOf P e len ds=some (kk,ns)) (k:IntKind) (n:Int) (h0:0≤n) (h1:n< (len:Int)):
  ∃v,(Instr.indexAt t u (.int k n)).run P X.w= .ok v X.w∧RelD X (.rptr [.v (.int kk (ns.getD n.toNat 0))]) v:=by
 simp only[RelD] at h;obtain⟨a,us,e1,h2,h3⟩:=h;subst e1;refine⟨_,run_indexAt_arr hu hi _ k n h0 h1 X.w,?_⟩;unfold tabOf at ht;split at ht
 ·rename_i hc;split at ht
  ·rename_i k' ns' hio;split at ht
   ·rename_i hl;simp only[sI,Prod.mk.injEq] at ht;obtain⟨rfl,rfl⟩:=ht;have hus:=intsOf_rel hio h2;subst hus;have hn:n.toNat<ns'.length:=by omega
    have hg:ns'.getD n.toNat 0=ns'[n.toNat]:=by rw[gE,gQ hn];rfl
    simp only[RelD];refine⟨_,[.int k' (ns'.getD n.toNat 0)],rfl,?_,?_⟩
    ·simp only[RelDs,RelD];exact⟨_,_,rfl,rfl,rfl⟩
    ·intro j v hj;cases j with
     |succ j=>simp at hj
     |zero=>
      simp only[List.getElem?_cons_zero,sI] at hj;subst hj;obtain⟨a',g1,g2,g3⟩:=h3 n.toNat (.int k' (ns'[n.toNat])) (by rw[List.getElem?_map,gQ hn];rfl);simp only[sI] at g1;subst g1;refine⟨_,rfl,by rw[add_block];exact g2,?_⟩;rw[hsz,hc.1,Nat.mul_one,add_add',Nat.add_zero,hg];exact g3
   ·cases ht
  ·cases ht
 ·cases ht
theorem s_index_agg {t e:TypeId} {len:Nat} {i:TypeInfo} (hu:P.underlying t=some (.array len e)) (hi:P.info? e=some i) (he:(P.underlying e).isSome=true) {ds:List D} {u:Value} (h:RelD X (.agg ds) u) (k:IntKind) (n:Int) (h0:0≤n) (h1:n< (len:Int))
  (hfit:n.toNat*i.size+i.size≤ds.length) {d:D} (hv:valD P e ((ds.drop (n.toNat*i.size)).take i.size)=some d):
  ∃v,(Instr.index t u (.int k n)).run P X.w= .ok v X.w∧RelD X d v:=by
 simp only[RelD] at h;obtain⟨us,e1,h2⟩:=h;subst e1;have hl:=relDs_length h2;have h3:=relDs_take i.size (relDs_drop (n.toNat*i.size) h2);unfold valD at hv;split at hv
 ·rename_i ha;simp only[sI] at hv;subst hv;refine⟨.agg ((us.drop (n.toNat*i.size)).take i.size).toArray,?_,by simp only[RelD];exact⟨_,rfl,h3⟩⟩;have hex:us.toArray.extract (n.toNat*i.size) (n.toNat*i.size+i.size)=((us.drop (n.toNat*i.size)).take i.size).toArray:=by
   simp[List.extract_eq_take_drop]
  simp[Instr.index,run_underlying hu,asIntOf,h0,h1,run_sizeOf' hi,part,run_isAgg he,ha,hex]
 ·rename_i ha;split at hv
  ·rename_i d' heq;simp only[sI] at hv;subst hv;rw[heq] at h3;obtain⟨u,e2,h4⟩:=relDs_one.1 h3;refine⟨u,?_,h4⟩;have hu0:us[n.toNat*i.size]? =some u:=by
    have:((us.drop (n.toNat*i.size)).take i.size)[0]? =some u:=by rw[e2];rfl
    rw[List.getElem?_take] at this;split at this
    ·rwa [List.getElem?_drop,Nat.add_zero] at this
    ·cases this
   have ha':aggB P e=false:=by simpa using ha
   simp[Instr.index,run_underlying hu,asIntOf,h0,h1,run_sizeOf' hi,part,run_isAgg he,ha',hu0]
  ·cases hv
theorem run_firstCells_at {S:Nat→Prop} {w:World} {A:Option Addr} {m c size:Nat} {us:List Value} (hl:us.length=m*size) (hA:A=none→us=[]) (h:At S w A us) (w':World) (hw:w'.heap=w.heap):
  (Builtin.firstCells size m (.slice A m c)).run P w'= .ok us.toArray w':=by
 cases A with
 |none=>rw[hA rfl];simp[Builtin.firstCells]
 |some a=>
  exact run_firstCells_some w' size m a m c us hl (fun j v hj=>by
   obtain⟨a',e,_,hc⟩:=h j v hj;cases e;rw[←hc];exact cell_same (by rw[hw]))
theorem run_append_fit {t t' e e' ty:TypeId} {i:TypeInfo} (ht:P.underlying t=some (.slice e)) (ht':P.underlying t'=some (.slice e')) (hi:P.info? e=some i) (w:World) (g o sLen sCap:Nat) (A2:Option Addr) (m c2:Nat) (cur:Array Value) (bt:TypeId)
  (hb:w.heap[g]? =some (.cells cur bt (0,0))) {news:List Value} (hl:news.length=m*i.size) (hf:(Builtin.firstCells i.size m (.slice A2 m c2)).run P w= .ok news.toArray w) (h1:∀u∈news,u.oneCell'=true) (hroom:sLen+m≤sCap) (hfit:o+sLen*i.size+news.length≤cur.size):
  (Builtin.append_ #[t,t'] ty #[.slice (some ⟨g,o,none⟩) sLen sCap,.slice A2 m c2]).run P w=
   .ok (.slice (some ⟨g,o,none⟩) (sLen+m) sCap) (w.setRow g (cur.toList.take (o+sLen*i.size)++news++cur.toList.drop (o+sLen*i.size+news.length)).toArray):=by
 have hst:=run_storeCells_at P g (o+sLen*i.size) bt news 0 cur w hb (by simpa using hfit) h1;simp only[Nat.add_zero] at hst;simp[Builtin.append_,run_underlying ht,run_underlying ht',sizeOf,typeInfo,hi,Builtin.lenOf,hroom,hf,add_plain,hst]
theorem run_append_none {t t' e e' ty:TypeId} {i:TypeInfo} (ht:P.underlying t=some (.slice e)) (ht':P.underlying t'=some (.slice e')) (hi:P.info? e=some i) (w:World) (A A2:Option Addr) (sLen sCap c2:Nat) (hroom:sLen≤sCap)
  (hf:(Builtin.firstCells i.size 0 (.slice A2 0 c2)).run P w= .ok #[] w):
  (Builtin.append_ #[t,t'] ty #[.slice A sLen sCap,.slice A2 0 c2]).run P w= .ok (.slice A sLen sCap) w:=by
 cases A<;>simp[Builtin.append_,run_underlying ht,run_underlying ht',sizeOf,typeInfo,hi,Builtin.lenOf,hroom,hf,storeCells]
theorem run_append_more {t t' e e' ty:TypeId} {i:TypeInfo} {z:Value} (ht:P.underlying t=some (.slice e)) (ht':P.underlying t'=some (.slice e')) (hi:P.info? e=some i) (hz:i.zero=some z) (w:World) (A A2:Option Addr) (sLen sCap m c2:Nat) {olds news:List Value}
  (hfo:(Builtin.firstCells i.size sLen (.slice A sLen sCap)).run P w.drew= .ok olds.toArray w.drew) (hf:(Builtin.firstCells i.size m (.slice A2 m c2)).run P w.drew= .ok news.toArray w.drew)
  (hg:sCap<sLen+m) (h63:((sLen+m:Nat):Int)≤9223372036854775807) (hfit:Builtin.nextslicecap (sLen+m) sCap*i.bytes≤281474976710656):
  (Builtin.append_ #[t,t'] ty #[.slice A sLen sCap,.slice A2 m c2]).run P w=
   .ok (.slice (some ⟨w.heap.size,0,none⟩) (sLen+m) (grownCap w (sLen+m) sCap e))
    (w.drew.alloc (.cells (olds++news++(Builtin.zeroCells z.cells (grownCap w (sLen+m) sCap e-(sLen+m))).toList).toArray e)):=by
 have hn:¬(sLen+m≤sCap):=by omega
 have h63':¬(9223372036854775807< ((sLen:Int)+(m:Int))):=by omega
 have h48':¬(281474976710656<Builtin.nextslicecap (sLen+m) sCap*i.bytes):=by omega
 simp[Builtin.append_,run_underlying ht,run_underlying ht',sizeOf,typeInfo,zeroValue,hi,hz,Builtin.lenOf,hn,h63',h48',Question.forced,hf,hfo,newRow,grownCap];congr 2
 apply Array.ext';simp[List.append_assoc]
abbrev vi (x:Int):D:= .v (.int .i64 x)
abbrev vb (b:Bool):D:= .v (.bool b)
abbrev sL (t:Ty) (xs:List t.El):D:= .sl false false t xs
abbrev lB (e:TypeId) (cs:List D):Slot:= .live (.box e cs)
abbrev lD (e:TypeId) (t:Ty) (xs:List t.El):Slot:= .live (.data e t xs)
abbrev o0 (i n:Nat):D:= .own i 0 n none
abbrev IW (n:Int):Int:=IntKind.i64.wrap n
end
theorem setWrites_append:∀(ws ws':List (Nat×Option Row)) (H:Heap),setWrites H (ws++ws')=setWrites (setWrites H ws) ws'
 | [],_,_=>rfl
 |(i,r)::ws,ws',H=>by simp only[List.cons_append,setWrites];exact setWrites_append ws ws' _
theorem put_self (X:Ctx) (id:Nat) (s:Slot) (w':World):X.put id s (X.ρ id) X.S w'=⟨X.ρ,X.H.set id s,X.S,w'⟩:=by
 have:(fun i=>if i=id then X.ρ id else X.ρ i)=X.ρ:=by
  funext i
  by_cases h:i=id
  ·rw[if_pos h,h]
  ·rw[if_neg h]
 unfold Ctx.put;rw[this]
def goneX (X:Ctx) (ids:List Nat):Ctx:=⟨X.ρ,setWrites X.H (ids.map fun i=>(i,none)),X.S,X.w⟩
theorem mem_drops {b:Beg}:∀(ids:List Nat) {X:Ctx},Mem b X→nodupB ids=true→(∀id∈ids,hget X.H id≠none)→Mem b (goneX X ids)∧Le X (goneX X ids)
 | [],X,M,_,_=>⟨M,Le.refl X⟩
 |id::ids,X,M,hnd,hl=>by
  obtain⟨hni,hnd'⟩:=nodupB_cons hnd;obtain⟨r0,h0⟩:∃r,hget X.H id=some r:=by
   cases h:hget X.H id with
   |none=>exact absurd h (hl id (by simp))
   |some r=>exact⟨r,rfl⟩
  obtain⟨M1,L1⟩:=mem_kill M h0 X.S (fun k h=>h) (fun k h=> .inl h);rw[put_self] at M1 L1;have hl1:∀i∈ids,hget (X.H.set id .dead) i≠none:=by
   intro i hi;rw[hget_set,if_neg (fun h=>hni (by rw[h.1];exact hi))];exact hl i (by simp[hi])
  obtain⟨M2,L2⟩:=mem_drops ids M1 hnd' hl1;exact⟨M2,L1.trans L2⟩
theorem mem_same {b:Beg} {X:Ctx} (M:Mem b X) {id:Nat} {r0 r:Row} (h0:hget X.H id=some r0) (hcomp:Comp r0 r) (hok:∀l,X.ρ id=some l→r.okLoc l)
  (hr:Le X ⟨X.ρ,X.H.set id (.live r),X.S,X.w⟩→RelRow ⟨X.ρ,X.H.set id (.live r),X.S,X.w⟩ r (X.ρ id)):
  Mem b ⟨X.ρ,X.H.set id (.live r),X.S,X.w⟩∧Le X ⟨X.ρ,X.H.set id (.live r),X.S,X.w⟩:=by
 have hs0:=hget_live.1 h0;have hlen:id<X.H.length:=lt_of_slot (by rw[hs0];simp);have hle:Le X ⟨X.ρ,X.H.set id (.live r),X.S,X.w⟩:=by
  refine⟨fun k hk=>⟨hk,rfl⟩,fun i=> ?_⟩;unfold Pair;show match slot X.H i,slot (X.H.set id (.live r)) i with
   | .free,_=>True
   |_,.free=>False
   |_,.dead=>True
   | .dead,.live _=>False
   | .live r,.live r'=>Comp r r'∧_
  rw[slot_set];by_cases hi:id=i∧id<X.H.length
  ·rw[if_pos hi,←hi.1,hs0];exact⟨hcomp,rfl⟩
  ·rw[if_neg hi];cases slot X.H i<;>simp[Comp.refl]
   rfl
 have hlive:∀i,hget (X.H.set id (.live r)) i=if i=id then some r else hget X.H i:=by
  intro i;rw[hget_set];by_cases hi:i=id
  ·subst hi;simp[hlen]
  ·rw[if_neg (fun h=>hi h.1.symm),if_neg hi]
 have hne:∀i,hget (X.H.set id (.live r)) i≠none→hget X.H i≠none:=by
  intro i hi;rw[hlive] at hi;by_cases h1:i=id
  ·rw[h1,h0];simp
  ·rwa [if_neg h1] at hi
 refine⟨⟨M.os,M.tape,M.output,M.size,fun i j p q hi hj=>M.inj i j p q (hne i hi) (hne j hj),fun i r' hi=> ?_,fun i p h=>M.sep i p (hne i h),M.stab,M.keep,fun i p h=>M.fresh i p (hne i h),fun i h1 h2=>M.old i h1 (hne i h2),M.sub,M.sup,M.glob.le hle.st,fun i r' p hi hp=> ?_⟩,hle⟩
 ·have hi':hget (X.H.set id (.live r)) i=some r':=hi;rw[hlive] at hi';by_cases h1:i=id
  ·rw[if_pos h1] at hi';cases hi';subst h1;exact hr hle
  ·rw[if_neg h1] at hi';exact relRow_le hle (fun _ _ _ _=>rfl) (M.rows i r' hi')
 ·have hi':hget (X.H.set id (.live r)) i=some r':=hi;rw[hlive] at hi';by_cases h1:i=id
  ·rw[if_pos h1] at hi';cases hi';subst h1;exact hok p hp
  ·rw[if_neg h1] at hi';exact M.ok i r' p hi' hp
structure NestRow (X:Ctx) (k:NK) (xs:List k.t.El) (h:Option (Nat×D)) (l:Loc) (cs:Array Value) (us:List Value):Prop where
 hb:X.w.heap[l.b]? =some (.cells cs k.e (0,0))
 hn:cs.size=l.n
 ok:k.ok=true
 nd:l.bs.Nodup
 il:l.inn.length=xs.length
 ul:us.length=xs.length*k.t.size
 one:∀u,u∈us→u.oneCell'=true
 fit:l.o+us.length≤l.n
 cs:∀j u,us[j]? =some u→cs[l.o+j]? =some u
 el:∀j x,xs[j]? =some x→NestEl X k x ((us.drop (j*k.t.size)).take k.t.size) (l.inn.getD j none) (holeAt h j)
theorem NestRow.row {X:Ctx} {k:NK} {xs:List k.t.El} {h:Option (Nat×D)} {l:Loc} {cs:Array Value} {us:List Value} (N:NestRow X k xs h l cs us):RelRow X (.nest k xs h) (some l):=
 ⟨cs,k.e,N.hb,N.hn,rfl,N.ok,N.nd,N.il,us,N.ul,N.one,N.fit,N.cs,N.el⟩
theorem nest_row {b:Beg} {X:Ctx} (M:Mem b X) {id:Nat} {k:NK} {xs:List k.t.El} {h:Option (Nat×D)} (hr:hget X.H id=some (.nest k xs h)):
  (X.ρ id=none∧xs=[])∨∃l cs us,X.ρ id=some l∧NestRow X k xs h l cs us:=by
 have hrow:=M.rows id _ hr;cases hl:X.ρ id with
 |none=>rw[hl] at hrow;exact .inl ⟨rfl,hrow⟩
 |some l=>
  rw[hl] at hrow;obtain⟨cs,ty,hb,hn,rfl,h1,h2,h3,us,h4,h5,h6,h7,h8⟩:=hrow;exact .inr ⟨l,cs,us,rfl,hb,hn,h1,h2,h3,h4,h5,h6,h7,h8⟩
theorem piece_len {us:List Value} {j s n:Nat} (hul:us.length=n*s) (hj:j<n):((us.drop (j*s)).take s).length=s:=by
 have:(j+1)*s≤n*s:=Nat.mul_le_mul_right _ hj;rw[Nat.add_mul,Nat.one_mul] at this;simp;omega
theorem getD_set {α:Type} (l:List α) (i j:Nat) (a d:α):(l.set i a).getD j d=if i=j∧i<l.length then a else l.getD j d:=by
 simp only[gE,List.getElem?_set];by_cases h:i=j
 ·subst h;by_cases h2:i<l.length
  ·simp[h2]
  ·simp[h2]
 ·simp[h]
def Loc.inP (l:Loc) (i:Nat) (o:Option Pl):Loc:=⟨l.toPl,l.inn.set i o⟩
theorem inn_split {l:Loc} {i:Nat} (hi:i<l.inn.length) (o:Option Pl):(l.inP i o).bs=l.b::((l.inn.take i).filterMap (Option.map Pl.b)++((o.map Pl.b).toList++(l.inn.drop (i+1)).filterMap (Option.map Pl.b))):=by
 unfold Loc.bs Loc.inP;simp only;rw[List.set_eq_take_append_cons_drop,if_pos hi,List.filterMap_append,List.filterMap_cons];cases o<;>rfl
theorem inn_self {l:Loc} {i:Nat} (hi:i<l.inn.length):l.inP i (l.inn.getD i none)=l:=by
 unfold Loc.inP;rw[gE,gQ hi,Option.getD_some,List.set_getElem_self]
theorem bs_in {l:Loc} {i:Nat} (hi:i<l.inn.length) {o:Option Pl} {k:Nat}:k∈(l.inP i o).bs↔k∈(l.inP i none).bs∨∃p,o=some p∧p.b=k:=by
 rw[inn_split hi,inn_split hi];cases o with
 |none=>simp
 |some p=>
  simp only[Option.map_some,Option.toList_some,Option.map_none,Option.toList_none,List.nil_append,List.mem_cons,List.mem_append,List.mem_singleton,sI,exists_eq_left'];constructor
  ·rintro(h|h|(h|h)|h)
   ·exact .inl (.inl h)
   ·exact .inl (.inr (.inl h))
   ·exact .inr h.symm
   ·cases h
   ·exact .inl (.inr (.inr h))
  ·rintro((h|h|h)|h)
   ·exact .inl h
   ·exact .inr (.inl h)
   ·exact .inr (.inr (.inr h))
   ·exact .inr (.inr (.inl (.inl h.symm)))
theorem nd_in {l:Loc} {i:Nat} (hi:i<l.inn.length) {o:Option Pl}:(l.inP i o).bs.Nodup↔(l.inP i none).bs.Nodup∧∀p,o=some p→p.b∉(l.inP i none).bs:=by
 rw[inn_split hi,inn_split hi];cases o with
 |none=>simp
 |some p=>
  simp only[Option.map_some,Option.toList_some,Option.map_none,Option.toList_none,List.nil_append,List.singleton_append,sI,forall_eq'];rw[←List.cons_append,(List.perm_middle).nodup_iff,List.nodup_cons,List.cons_append,and_comm]
theorem set_self {H:Heap} {id:Nat} {r:Row} (h:hget H id=some r):H.set id (.live r)=H:=by
 rw[hget_live] at h;apply List.ext_getElem?;intro i;rw[List.getElem?_set];by_cases e:id=i
 ·subst e;have hl:id<H.length:=lt_of_slot (by rw[h];simp);rw[if_pos rfl,if_pos hl];unfold slot at h;rw[gE,gQ hl] at h;rw[gQ hl];exact congrArg some h.symm
 ·rw[if_neg e]
theorem nodupB_nodup:∀{l:List Nat},nodupB l=true→l.Nodup
 | [],_=>List.nodup_nil
 |a::l,h=>List.nodup_cons.2 ⟨(nodupB_cons h).1,nodupB_nodup (nodupB_cons h).2⟩
theorem slot_gone:∀(ids:List Nat) (H:Heap) (j:Nat),slot (setWrites H (ids.map fun i=>(i,none))) j=if j∈ids∧j<H.length then .dead else slot H j
 | [],H,j=>by simp[setWrites]
 |a::ids,H,j=>by
  simp only[List.map_cons,setWrites];rw[slot_gone ids,slot_set,List.length_set];by_cases h1:j∈ids∧j<H.length
  ·rw[if_pos h1,if_pos ⟨by simp[h1.1],h1.2⟩]
  ·rw[if_neg h1];by_cases h2:a=j∧a<H.length
   ·rw[if_pos h2,if_pos ⟨by simp[h2.1],h2.1▸h2.2⟩];rfl
   ·rw[if_neg h2,if_neg];rintro⟨h3,h4⟩
    rcases List.mem_cons.1 h3 with h|h
    ·exact h2 ⟨h.symm,h▸h4⟩
    ·exact h1 ⟨h,h4⟩
theorem heap_ext {H H':Heap} (hl:H.length=H'.length) (h:∀i,i<H.length→slot H i=slot H' i):H=H':=by
 apply List.ext_getElem hl;intro i h1 h2;have:=h i h1;unfold slot at this;rwa [gE,gE,gQ h1,gQ h2] at this
section
variable {b:Beg} {X:Ctx}
theorem nestRow_le {Y:Ctx} (h:Le X Y) {k:NK} {xs:List k.t.El} {hh:Option (Nat×D)} {l:Loc} {cs:Array Value} {us:List Value} (N:NestRow X k xs hh l cs us) (hw:∀k∈l.bs,Y.w.heap[k]? =X.w.heap[k]?):NestRow Y k xs hh l cs us:=
 ⟨(hw _ l.b_in).trans N.hb,N.hn,N.ok,N.nd,N.il,N.ul,N.one,N.fit,N.cs,fun j x hx=>nestEl_le h (fun p hp=>hw p.b (Loc.bs_mem.2 (.inr ⟨j,p,hp,rfl⟩))) (N.el j x hx)⟩
theorem nestRow_out {Y:Ctx} (h:Le X Y) {k:NK} {xs:List k.t.El} {hh:Option (Nat×D)} {l:Loc} {cs:Array Value} {us:List Value} (N:NestRow X k xs hh l cs us)
  {i:Nat} {d:D} (hw:∀k∈(l.inP i none).bs,Y.w.heap[k]? =X.w.heap[k]?) (hhi:∀j,j≠i→holeAt hh j=none) (hd:∀v,((us.drop (i*k.t.size)).take k.t.size)[k.p]? =some v→i<xs.length→RelD Y d v):NestRow Y k xs (some (i,d)) (l.inP i none) cs us:=by
 have hnd:(l.inP i none).bs.Nodup:=by
  by_cases hi:i<l.inn.length
  ·have:=N.nd;rw[←inn_self hi] at this;exact((nd_in hi).1 this).1
  ·have:l.inP i none=l:=by unfold Loc.inP;rw[List.set_eq_of_length_le (by omega)]
   rw[this];exact N.nd
 refine⟨(hw _ (Loc.b_in _)).trans N.hb,N.hn,N.ok,hnd,by rw[←N.il];simp[Loc.inP],N.ul,N.one,N.fit,N.cs,fun j x hx=> ?_⟩;have hjl:j<xs.length:=(List.getElem?_eq_some_iff.1 hx).1;by_cases hj:i=j
 ·subst hj;have E:=N.el i x hx;refine⟨fun q c hq hc=> ?_,?_⟩
  ·obtain⟨v,h1,h2⟩:=E.flat q c hq hc;exact⟨v,h1,h.d h2⟩
  ·obtain⟨v,hv,_⟩:=E.inn;refine⟨v,hv,?_⟩;have e1:holeAt (some (i,d)) i=some d:=by simp[holeAt]
   rw[e1];refine⟨?_,hd v hv hjl⟩;show(l.inn.set i none).getD i none=none;rw[getD_set,if_pos ⟨rfl,by rw[N.il];exact hjl⟩]
 ·have e1:holeAt (some (i,d)) j=holeAt hh j:=by rw[hhi j (fun e=>hj e.symm)];simp[holeAt,hj]
  have e2:(l.inP i none).inn.getD j none=l.inn.getD j none:=by
   show(l.inn.set i none).getD j none=_;rw[getD_set,if_neg (fun e=>hj e.1)]
  rw[e1,e2];exact nestEl_le h (fun p hp=>hw p.b (Loc.bs_mem.2 (.inr ⟨j,p,by rw[e2];exact hp,rfl⟩))) (N.el j x hx)
theorem nestRow_in {Y:Ctx} (h:Le X Y) {k:NK} {xs:List k.t.El} {l:Loc} {cs:Array Value} {us:List Value} {i:Nat} {d:D} (N:NestRow X k xs (some (i,d)) l cs us) (hw:∀k∈l.bs,Y.w.heap[k]? =X.w.heap[k]?)
  (hi:i<xs.length) (ys:List k.u.El) (o:Option Pl) (ho:∀p,o=some p→p.b∉l.bs) (hd:∀v,((us.drop (i*k.t.size)).take k.t.size)[k.p]? =some v→InnerOk Y k.e' k.u ys o v):
  NestRow Y k (xs.set i (k.t.setP (xs.getD i k.t.dflt) k.p k.u ys)) none (l.inP i o) cs us:=by
 have hil:i<l.inn.length:=by rw[N.il];exact hi
 have hx:xs[i]? =some (xs.getD i k.t.dflt):=by simp[gE,hi]
 have E:=N.el i _ hx;have e0:holeAt (some (i,d)) i=some d:=by simp[holeAt]
 obtain⟨v,hv,hin⟩:=E.inn;rw[e0] at hin;have hself:l.inP i none=l:=by have:=inn_self hil;rw[hin.1] at this;exact this
 refine⟨(hw _ l.b_in).trans N.hb,N.hn,N.ok,?_,by rw[List.length_set,←N.il];simp[Loc.inP],by rw[List.length_set];exact N.ul,N.one,N.fit,N.cs,fun j x hxj=> ?_⟩
 ·exact(nd_in hil).2 ⟨by rw[hself];exact N.nd,fun p hp=>by rw[hself];exact ho p hp⟩
 ·by_cases hj:i=j
  ·subst hj;rw[List.getElem?_set,if_pos rfl,if_pos hi] at hxj;cases hxj;have hc:=cells_setP k.t (xs.getD i k.t.dflt) ys (NK.ok_at N.ok);refine⟨fun q c hq hcq=> ?_,v,hv,?_⟩
   ·rw[hc,List.getElem?_set,if_neg (fun e=>hq e.symm)] at hcq;obtain⟨v,h1,h2⟩:=E.flat q c hq hcq;exact⟨v,h1,h.d h2⟩
   ·have e1:(l.inP i o).inn.getD i none=o:=by
     show(l.inn.set i o).getD i none=o;rw[getD_set,if_pos ⟨rfl,hil⟩]
    rw[e1];have e2:k.t.getP (k.t.setP (xs.getD i k.t.dflt) k.p k.u ys) k.p k.u=ys:=by
     have h1:=cells_getP k.t (k.t.setP (xs.getD i k.t.dflt) k.p k.u ys) (NK.ok_at N.ok);rw[hc,List.getElem?_set,if_pos rfl,if_pos (by rw[ty_cells_length];exact atP_lt k.t (NK.ok_at N.ok))] at h1;simp only[sI,D.sl.injEq,true_and,heq_eq_eq] at h1;exact h1.symm
    show InnerOk Y k.e' k.u (k.t.getP (k.t.setP (xs.getD i k.t.dflt) k.p k.u ys) k.p k.u) o v;rw[e2];exact hd v hv
  ·rw[List.getElem?_set,if_neg hj] at hxj;have e1:holeAt none j=holeAt (some (i,d)) j:=by simp[holeAt,hj]
   have e2:(l.inP i o).inn.getD j none=l.inn.getD j none:=by
    show(l.inn.set i o).getD j none=_;rw[getD_set,if_neg (fun e=>hj e.1)]
   rw[e1,e2];exact nestEl_le h (fun p hp=>hw p.b (Loc.bs_mem.2 (.inr ⟨j,p,hp,rfl⟩))) (N.el j x hxj)
theorem relData_row {e:TypeId} {t:Ty} {xs:List t.El} {p:Pl} (h:RelData X e t xs (some p)):RelRow X (.data e t xs) (some ⟨p,[]⟩):=by
 obtain⟨cs,h1,h2,us,h3⟩:=h;exact⟨cs,e,h1,h2,rfl,us,h3⟩
theorem row_relData {e:TypeId} {t:Ty} {xs:List t.El} {o:Option Loc} (h:RelRow X (.data e t xs) o):RelData X e t xs (o.map Loc.toPl):=by
 cases o with
 |none=>exact h
 |some l=>
  obtain⟨cs,ty,h1,h2,h3,us,h4⟩:=h;subst h3;exact⟨cs,h1,h2,us,h4⟩
theorem mem_focus (M:Mem b X) {id:Nat} {k:NK} {xs:List k.t.El} (hr:hget X.H id=some (.nest k xs none)) {i:Nat} (hi:i<xs.length) {nid:Nat} (hf:slot X.H nid= .free) (hl:nid<X.H.length) (hn:b.n≤nid):
  ∃X',Mem b X'∧Le X X'∧X'.w=X.w∧X'.S=X.S∧X'.H=(X.H.set nid (.live (.data k.e' k.u (k.t.getP (xs.getD i k.t.dflt) k.p k.u)))).set id (.live (.nest k xs (some (i,.own nid 0 (k.t.getP (xs.getD i k.t.dflt) k.p k.u).length none)))):=by
 have hs0:=hget_live.1 hr;have hlen:id<X.H.length:=lt_of_slot (by rw[hs0];simp);have hne:nid≠id:=fun e=>by rw[e,hs0] at hf;cases hf
 rcases nest_row M hr with⟨_,rfl⟩|⟨l,cs,us,hρ,N⟩
 ·simp at hi
 have hlive:hget X.H id≠none:=by rw[hr];simp
 have hil:i<l.inn.length:=by rw[N.il];exact hi
 have hx:xs[i]? =some (xs.getD i k.t.dflt):=by simp[gE,hi]
 generalize hys:k.t.getP (xs.getD i k.t.dflt) k.p k.u=ys
 obtain⟨v,hv,hin⟩:=(N.el i _ hx).inn;have hin:InnerOk X k.e' k.u ys (l.inn.getD i none) v:=by rw[←hys];exact hin
 have hself:=inn_self hil;have hsub:∀q∈(l.inP i none).bs,q∈l.bs:=fun q hq=>by rw[←hself];exact(bs_in hil).2 (.inl hq)
 have hnd:=N.nd;rw[←hself] at hnd;have hnot:=((nd_in hil).1 hnd).2;obtain⟨M1,L1⟩:=mem_set M hlen (.nest k xs (some (i,.v v))) (l.inP i none) X.w (.inr ⟨_,hr,rfl,(show X.pl id=some l.toPl from Ctx.pl_of hρ)⟩) rfl rfl rfl (Nat.le_refl _) (fun _ _ _=>rfl)
  (fun j p hj hj1 hp q hq hq2=>hj (M.inj j id p l hj1 hlive hp hρ q hq (hsub q hq2))) (fun q hq=>M.sep id l hlive hρ q (hsub q hq)) (fun q hq=>M.fresh id l hlive hρ q (hsub q hq)) trivial
  (fun hle=>(nestRow_out hle N (fun _ _=>rfl) (fun _ _=>rfl) (fun v' hv' _=>by rw[hv] at hv';cases hv';simp only[RelD])).row)
 have N1:NestRow (X.put id (.live (.nest k xs (some (i,.v v)))) (some (l.inP i none)) X.S X.w) k xs (some (i,.v v)) (l.inP i none) cs us:=
  nestRow_out L1 N (fun _ _=>rfl) (fun _ _=>rfl) (fun v' hv' _=>by rw[hv] at hv';cases hv';simp only[RelD])
 have hH1:∀j,slot (X.put id (.live (.nest k xs (some (i,.v v)))) (some (l.inP i none)) X.S X.w).H j=if id=j then .live (.nest k xs (some (i,.v v))) else slot X.H j:=by
  intro j;show slot (X.H.set id _) j=_;rw[slot_set];by_cases e:id=j
  ·subst e;simp[hlen]
  ·simp[e]
 have hρ1:∀j,(X.put id (.live (.nest k xs (some (i,.v v)))) (some (l.inP i none)) X.S X.w).ρ j=if j=id then some (l.inP i none) else X.ρ j:=fun j=>rfl
 generalize hX1:X.put id (.live (.nest k xs (some (i,.v v)))) (some (l.inP i none)) X.S X.w=X1 at M1 L1 N1 hH1 hρ1
 have hX1w:X1.w=X.w:=by rw[←hX1];rfl
 have hX1S:X1.S=X.S:=by rw[←hX1];rfl
 have hX1H:X1.H=X.H.set id (.live (.nest k xs (some (i,.v v)))):=by rw[←hX1];rfl
 have hf1:slot X1.H nid= .free:=by rw[hH1,if_neg hne.symm,hf]
 have hl1:nid<X1.H.length:=by rw[hX1H];simpa using hl
 have hin1:InnerOk X1 k.e' k.u ys (l.inn.getD i none) v:=innerOk_le L1 (fun _ _=>by rw[hX1w]) hin;have step2:∃X2,Mem b X2∧Le X1 X2∧X2.w=X1.w∧X2.S=X1.S∧X2.H=X1.H.set nid (.live (.data k.e' k.u ys))∧X2.ρ id=some (l.inP i none)∧RelD X2 (.own nid 0 ys.length none) v:=by
  obtain⟨A,c,h1,h2,h3,h4,h5⟩:=hin1;cases ho:l.inn.getD i none with
  |none=>
   rw[ho] at h5 h4;have hys0:ys=[]:=h5;subst hys0;obtain⟨M2,L2⟩:=mem_virt M1 hf1 hl1 hn k.e' k.u;refine⟨_,M2,L2,rfl,rfl,rfl,?_,?_⟩
   ·show(if id=nid then none else X1.ρ id)=_;rw[if_neg hne.symm,hρ1,if_pos rfl]
   ·simp only[RelD];rw[slot_put _ _ _ _ _ hl1];have hc0:c=0:=by
     rcases h4 with h|⟨p,hp,_⟩
     ·exact h
     ·cases hp
    subst hc0;exact⟨by simp,A,0,h1,Nat.le_refl _,fun _=>rfl,by simp,by simp,.inl rfl⟩
  |some p=>
   rw[ho] at h5 h4;have hpl:p.b∈l.bs:=Loc.bs_mem.2 (.inr ⟨i,p,ho,rfl⟩);have hbs:∀q∈(⟨p,[]⟩:Loc).bs,q=p.b:=by intro q hq;simpa [Loc.bs] using hq
   obtain⟨M2,L2⟩:=mem_set M1 hl1 (.data k.e' k.u ys) ⟨p,[]⟩ X1.w (.inl ⟨hf1,hn⟩) rfl rfl rfl (Nat.le_refl _) (fun _ _ _=>rfl)
    (fun j q hj hj1 hq z hz hz2=>by
     have hz':=hbs z hz2;subst hz';rw[hρ1] at hq;by_cases e:j=id
     ·rw[if_pos e] at hq;cases hq;exact hnot p ho hz
     ·rw[if_neg e] at hq;have hj2:hget X.H j≠none:=by
       unfold hget at hj1⊢;rw[hH1,if_neg (fun e'=>e e'.symm)] at hj1;exact hj1
      exact e (M.inj j id q l hj2 hlive hq hρ _ hz hpl))
    (fun z hz=>by rw[hbs z hz,hX1S];exact M.sep id l hlive hρ _ hpl) (fun z hz=>by rw[hbs z hz];exact M.fresh id l hlive hρ _ hpl) rfl
    (fun hle=>relData_row (relData_le hle (fun _ _=>rfl) h5))
   refine⟨_,M2,L2,rfl,rfl,rfl,?_,?_⟩
   ·show(if id=nid then _ else X1.ρ id)=_;rw[if_neg hne.symm,hρ1,if_pos rfl]
   ·simp only[RelD];rw[slot_put _ _ _ _ _ hl1];refine⟨by simp,A,c,h1,h2,h3,by simp,by simpa using h2,?_⟩;rcases h4 with h|⟨p',hp',hA,hb⟩
    ·exact .inl h
    ·cases hp';exact .inr ⟨p,by simp[Ctx.pl,Ctx.put],by rw[hA];simp,by simpa using hb⟩
 obtain⟨X2,M2,L2,hX2w,hX2S,hX2H,hρ2,hown⟩:=step2;have hr2:hget X2.H id=some (.nest k xs (some (i,.v v))):=by
  rw[hget_live,hX2H,slot_set,if_neg (fun e=>hne e.1),hH1,if_pos rfl]
 have N2:=nestRow_le L2 N1 (fun _ _=>by rw[hX2w]);obtain⟨M3,L3⟩:=mem_same M2 hr2 (r:= .nest k xs (some (i,.own nid 0 ys.length none))) rfl (fun _ _=>trivial) (fun hle=>by
  rw[hρ2];have:=nestRow_out (i:=i) (d:= .own nid 0 ys.length none) hle N2 (fun _ _=>rfl) (fun j hj=>by simp[holeAt];intro e;exact absurd e.symm hj) (fun v' hv' _=>by rw[hv] at hv';cases hv';exact hle.d hown);have e:(l.inP i none).inP i none=l.inP i none:=by unfold Loc.inP;simp
  rw[e] at this;exact this.row)
 refine⟨_,M3,(L1.trans L2).trans L3,hX2w.trans hX1w,hX2S.trans hX1S,?_⟩;show X2.H.set id _=_;rw[hX2H,hX1H,List.set_comm _ _ hne.symm,List.set_set]
theorem gone_slot {ids:List Nat} {H:Heap} {id:Nat} (h:id∉ids):slot (setWrites H (ids.map fun i=>(i,none))) id=slot H id:=
 slot_setWrites _ _ _ fun p hp e=>by
  obtain⟨j,hj,rfl⟩:=List.mem_map.1 hp;exact h (e▸hj)
theorem own_size {id off len:Nat} {cap:Option Nat} {e:TypeId} {t:Ty} {xs:List t.El} {v:Value} (hr:hget X.H id=some (.data e t xs)) (h:RelD X (.own id off len cap) v):
  off+len≤xs.length∧∃A c,v= .slice A len c∧len≤c∧(A=none→c=0)∧(c=0∨∃l,X.pl id=some l∧A=some ⟨l.b,l.o+off*t.size,none⟩∧l.o+(off+c)*t.size≤l.n):=by
 simp only[RelD] at h;rw[hget_live.1 hr] at h;obtain⟨h1,A,c,h2,h3,h4,_,_,h5⟩:=h;exact⟨h1,A,c,h2,h3,h4,h5⟩
theorem own_inner (M:Mem b X) {r len:Nat} {cap:Option Nat} {e:TypeId} {u:Ty} {zs:List u.El} (hr:hget X.H r=some (.data e u zs)) {v:Value} (h:RelD X (.own r 0 len cap) v):InnerOk X e u (zs.take len) (X.pl r) v:=by
 obtain⟨h1,A,c,h2,h3,h4,h5⟩:=own_size hr h;have hl:(zs.take len).length=len:=by simp;omega
 refine⟨A,c,by rw[hl];exact h2,by rw[hl];exact h3,h4,?_,?_⟩
 ·rcases h5 with h5|⟨l,h6,h7,h8⟩
  ·exact .inl h5
  ·exact .inr ⟨l,h6,by simpa using h7,by simpa using h8⟩
 ·have:=row_relData (M.rows r _ hr);unfold Ctx.pl;cases hρ:X.ρ r with
  |none=>rw[hρ] at this;simp only[Option.map_none] at this⊢;show zs.take len=[];rw[show zs=[] from this];simp
  |some l=>
   rw[hρ] at this;obtain⟨cs,hb,hn,us,hreps,hone,hfit,hcs⟩:=this;have hul:=reps_length hreps;refine⟨cs,hb,hn,us.take (len*u.size),hreps.take (RelE_length u) len,fun w hw=>hone w (List.mem_of_mem_take hw),?_,fun j w hj=> ?_⟩
   ·simp only[List.length_take];omega
   ·rw[List.getElem?_take] at hj;split at hj
    ·exact hcs j w hj
    ·cases hj
theorem nil_inner {X:Ctx} {e:TypeId} {u:Ty}:InnerOk X e u [] none (.slice none 0 0):=⟨none,0,rfl,Nat.le_refl _,fun _=>rfl,.inl rfl,rfl⟩
structure Shr (X X':Ctx):Prop where
 w:X'.w=X.w
 S:X'.S=X.S
 blk:∀id l,hget X'.H id≠none→X'.ρ id=some l→∀k∈l.bs,∃id',hget X.H id'≠none∧∃l',X.ρ id'=some l'∧k∈l'.bs
theorem Shr.refl (X:Ctx):Shr X X:=⟨rfl,rfl,fun id l h1 h2 k hk=>⟨id,h1,l,h2,hk⟩⟩
theorem Shr.trans {X Y Z:Ctx} (h:Shr X Y) (k:Shr Y Z):Shr X Z:=
 ⟨k.w.trans h.w,k.S.trans h.S,fun id l h1 h2 q hq=>by
  obtain⟨id',h3,l',h4,h5⟩:=k.blk id l h1 h2 q hq;exact h.blk id' l' h3 h4 q h5⟩
theorem shr_same {X:Ctx} {id:Nat} {r0 r:Row} (h0:hget X.H id=some r0):Shr X ⟨X.ρ,X.H.set id (.live r),X.S,X.w⟩:=by
 refine⟨rfl,rfl,fun j l h1 h2 k hk=>⟨j,?_,l,h2,hk⟩⟩;have h1:hget (X.H.set id (.live r)) j≠none:=h1;rw[hget_set] at h1;by_cases e:id=j∧id<X.H.length
 ·rw[←e.1,h0];simp
 ·rwa [if_neg e] at h1
theorem mem_unf' (M:Mem b X) {rd:Nat→Option Row} (hrd:∀id r,rd id=some r→hget X.H id=some r) {id:Nat} {k:NK} {xs xs':List k.t.El} {h:Option (Nat×D)} {ws:List (Nat×Option Row)} (hr:hget X.H id=some (.nest k xs h)) (hu:unf rd k xs h=some (xs',ws)):
  ∃X',Mem b X'∧Le X X'∧X'.w=X.w∧X'.S=X.S∧X'.H=(setWrites X.H ws).set id (.live (.nest k xs' none))∧xs'.length=xs.length∧∃ids:List Nat,ws=ids.map (fun i=>(i,none))∧nodupB ids=true∧(∀r∈ids,∃e t zs,hget X.H r=some (.data e t zs))∧Shr X X':=by
 have hlen:id<X.H.length:=lt_of_slot (by rw[hget_live.1 hr];simp);unfold unf at hu;split at hu
 ·simp only[sI,Prod.mk.injEq] at hu;obtain⟨rfl,rfl⟩:=hu;exact⟨X,M,Le.refl X,rfl,rfl,(set_self hr).symm,rfl,[],rfl,rfl,by simp,Shr.refl X⟩
 ·rename_i i;simp only[sI,Prod.mk.injEq] at hu;obtain⟨rfl,rfl⟩:=hu;have hcomp:Comp (.nest k xs (some (i,.v (.slice none 0 0)))) (.nest k (xs.set i (k.t.setP (xs.getD i k.t.dflt) k.p k.u [])) none):=by simp[Comp,Row.dims]
  obtain⟨M',L'⟩:=mem_same M hr hcomp (fun _ _=>trivial) (fun hle=>by
   rcases nest_row M hr with⟨hρ,rfl⟩|⟨l,cs,us,hρ,N⟩
   ·rw[hρ];rfl
   ·rw[hρ];by_cases hi:i<xs.length
    ·have hx:xs[i]? =some (xs.getD i k.t.dflt):=by simp[gE,hi]
     obtain⟨v,hv,hin⟩:=(N.el i _ hx).inn;have e0:holeAt (some (i,D.v (.slice none 0 0))) i=some (.v (.slice none 0 0)):=by simp[holeAt]
     rw[e0] at hin;have:=nestRow_in hle N (fun _ _=>rfl) hi [] none (by simp) (fun v' hv'=>by
      rw[hv] at hv';cases hv';have:=hin.2;simp only[RelD] at this;subst this;exact nil_inner)
     have hself:l.inP i none=l:=by have:=inn_self (l:=l) (i:=i) (by rw[N.il];exact hi);rw[hin.1] at this;exact this
     rw[hself] at this;exact this.row
    ·have e1:xs.set i (k.t.setP (xs.getD i k.t.dflt) k.p k.u [])=xs:=List.set_eq_of_length_le (by omega);rw[e1] at hle⊢;have N':=nestRow_le hle N (fun _ _=>rfl);exact NestRow.row (cs:=cs) (us:=us) ⟨N'.hb,N'.hn,N'.ok,N'.nd,N'.il,N'.ul,N'.one,N'.fit,N'.cs,fun j x hx=>by
      have hj:j<xs.length:=(List.getElem?_eq_some_iff.1 hx).1;have e2:holeAt (some (i,D.v (.slice none 0 0))) j=holeAt none j:=by simp[holeAt];omega
      rw[←e2];exact N'.el j x hx⟩)
  exact⟨_,M',L',rfl,rfl,rfl,by simp,[],rfl,rfl,by simp,shr_same hr⟩
 ·rename_i i r off len cap;split at hu
  ·rename_i e u zs hz;split at hu
   ·rename_i he;subst he;split at hu
    ·rename_i hg;obtain⟨rfl,rfl⟩:=hg;simp only[sI,Prod.mk.injEq] at hu;obtain⟨rfl,rfl⟩:=hu;have hz:=hrd _ _ hz;have hne:r≠id:=fun e=>by rw[e,hr] at hz;cases hz
     obtain⟨M1,L1⟩:=mem_drops [r] M rfl (by intro j hj;simp at hj;subst hj;rw[hz];simp);have hr1:hget (goneX X [r]).H id=some (.nest k xs (some (i,.own r 0 len cap))):=by
      rw[hget_live];show slot (setWrites X.H _) id=_;rw[gone_slot (by simp;exact fun e=>hne e.symm)];exact hget_live.1 hr
     have key:∃X',Mem b X'∧Le (goneX X [r]) X'∧X'.w=X.w∧X'.S=X.S∧X'.H=(goneX X [r]).H.set id (.live (.nest k (xs.set i (k.t.setP (xs.getD i k.t.dflt) k.p k.u (zs.take len))) none))∧Shr X X':=by
      have hgone:∀j,hget (goneX X [r]).H j≠none→hget X.H j≠none:=fun j hj=>by
       by_cases e:j=r
       ·rw[e,hz];simp
       ·unfold hget at hj⊢;rwa [show slot (goneX X [r]).H j=slot X.H j from gone_slot (by simpa using e)] at hj
      have shr1:Shr X (goneX X [r]):=⟨rfl,rfl,fun j l h1 h2 k hk=>⟨j,hgone j h1,l,h2,hk⟩⟩;have hcomp:Comp (.nest k xs (some (i,.own r 0 len cap))) (.nest k (xs.set i (k.t.setP (xs.getD i k.t.dflt) k.p k.u (zs.take len))) none):=by simp[Comp,Row.dims]
      rcases nest_row M hr with⟨hρ,rfl⟩|⟨l,cs,us,hρ,N⟩
      ·obtain⟨M',L'⟩:=mem_same M1 hr1 hcomp (fun _ _=>trivial) (fun hle=>by show RelRow _ _ (X.ρ id);rw[hρ];rfl);exact⟨_,M',L',rfl,rfl,rfl,shr1.trans (shr_same hr1)⟩
      ·have N1:=nestRow_le L1 N (fun _ _=>rfl);by_cases hi:i<xs.length
       ·have hx:xs[i]? =some (xs.getD i k.t.dflt):=by simp[gE,hi]
        obtain⟨v,hv,hin⟩:=(N.el i _ hx).inn;have e0:holeAt (some (i,D.own r 0 len cap)) i=some (.own r 0 len cap):=by simp[holeAt]
        rw[e0] at hin;have hinner:=own_inner M hz hin.2;have hil:i<l.inn.length:=by rw[N.il];exact hi
        have hself:l.inP i none=l:=by have:=inn_self hil;rw[hin.1] at this;exact this
        have hlr:hget X.H r≠none:=by rw[hz];simp
        have hli:hget X.H id≠none:=by rw[hr];simp
        have hrb:∀p,X.pl r=some p→∃lr,X.ρ r=some lr∧p.b∈lr.bs:=fun p hp=>by
         obtain⟨lr,h1,h2⟩:=Ctx.pl_some hp;exact⟨lr,h1,by rw[←h2];exact lr.b_in⟩
        have hbs:∀q,q∈(l.inP i (X.pl r)).bs→q∈l.bs∨∃lr,X.ρ r=some lr∧q∈lr.bs:=fun q hq=>by
         rcases(bs_in hil).1 hq with h|⟨p,h1,h2⟩
         ·rw[hself] at h;exact .inl h
         ·obtain⟨lr,h3,h4⟩:=hrb p h1;exact .inr ⟨lr,h3,by rw[←h2];exact h4⟩
        obtain⟨M',L'⟩:=mem_set M1 (by show id< (setWrites X.H _).length;rw[setWrites_length];exact hlen) (.nest k (xs.set i (k.t.setP (xs.getD i k.t.dflt) k.p k.u (zs.take len))) none) (l.inP i (X.pl r)) X.w
         (.inr ⟨_,hr1,hcomp,(show X.pl id=some l.toPl from Ctx.pl_of hρ)⟩) rfl rfl rfl (Nat.le_refl _) (fun _ _ _=>rfl)
         (fun j p hj hj1 hp q hq hq2=>by
          have hj2:hget X.H j≠none∧j≠r:=by
           by_cases e:j=r
           ·subst e;exfalso;apply hj1;have hjl:j<X.H.length:=lt_of_slot (by rw[hget_live.1 hz];simp);show hget (X.H.set j .dead) j=none;rw[hget_set,if_pos ⟨rfl,hjl⟩]
           ·refine⟨?_,e⟩;unfold hget at hj1⊢;rwa [show slot (goneX X [r]).H j=slot X.H j from gone_slot (by simpa using e)] at hj1
          have hp':X.ρ j=some p:=hp;rcases hbs q hq2 with h|⟨lr,h1,h2⟩
          ·exact hj (M.inj j id p l hj2.1 hli hp' hρ q hq h)
          ·exact hj2.2 (M.inj j r p lr hj2.1 hlr hp' h1 q hq h2))
         (fun q hq=>by
          rcases hbs q hq with h|⟨lr,h1,h2⟩
          ·exact M.sep id l hli hρ q h
          ·exact M.sep r lr hlr h1 q h2)
         (fun q hq=>by
          rcases hbs q hq with h|⟨lr,h1,h2⟩
          ·exact M.fresh id l hli hρ q h
          ·exact M.fresh r lr hlr h1 q h2) trivial
         (fun hle=>(nestRow_in hle N1 (fun _ _=>rfl) hi (zs.take len) (X.pl r) (fun p hp hm=>by
          obtain⟨lr,h1,h2⟩:=hrb p hp;exact hne (M.inj r id lr l hlr hli h1 hρ _ h2 hm)) (fun v' hv'=>by rw[hv] at hv';cases hv';exact innerOk_le (L1.trans hle) (fun _ _=>rfl) hinner)).row)
        refine⟨_,M',L',rfl,rfl,rfl,rfl,rfl,fun j l2 h1 h2 q hq=> ?_⟩;have h2':(if j=id then some (l.inP i (X.pl r)) else X.ρ j)=some l2:=h2;by_cases e:j=id
        ·rw[if_pos e] at h2';cases h2';rcases hbs q hq with h|⟨lr,h3,h4⟩
         ·exact⟨id,hli,l,hρ,h⟩
         ·exact⟨r,hlr,lr,h3,h4⟩
        ·rw[if_neg e] at h2';refine⟨j,hgone j ?_,l2,h2',hq⟩;have h1':hget ((goneX X [r]).H.set id (.live (.nest k (xs.set i (k.t.setP (xs.getD i k.t.dflt) k.p k.u (zs.take len))) none))) j≠none:=h1;rwa [hget_set,if_neg (fun e'=>e e'.1.symm)] at h1'
       ·obtain⟨M',L'⟩:=mem_same M1 hr1 hcomp (fun _ _=>trivial) (fun hle=>by
         have hρ1:(goneX X [r]).ρ id=some l:=hρ;rw[hρ1];have e1:xs.set i (k.t.setP (xs.getD i k.t.dflt) k.p k.u (zs.take len))=xs:=List.set_eq_of_length_le (by omega);rw[e1] at hle⊢;have N':=nestRow_le hle N1 (fun _ _=>rfl);exact NestRow.row (cs:=cs) (us:=us) ⟨N'.hb,N'.hn,N'.ok,N'.nd,N'.il,N'.ul,N'.one,N'.fit,N'.cs,fun j x hx=>by
          have hj:j<xs.length:=(List.getElem?_eq_some_iff.1 hx).1;have e2:holeAt (some (i,D.own r 0 len cap)) j=holeAt none j:=by simp[holeAt];omega
          rw[←e2];exact N'.el j x hx⟩)
        exact⟨_,M',L',rfl,rfl,rfl,shr1.trans (shr_same hr1)⟩
     obtain⟨X',M',L',h1,h2,h3,h4⟩:=key;exact⟨X',M',L1.trans L',h1,h2,h3,by simp,[r],rfl,rfl,by intro j hj;simp at hj;subst hj;exact⟨_,_,_,hz⟩,h4⟩
    ·cases hu
   ·cases hu
  ·cases hu
 ·cases hu
theorem mem_unf (M:Mem b X) {rd:Nat→Option Row} (hrd:∀id r,rd id=some r→hget X.H id=some r) {id:Nat} {k:NK} {xs xs':List k.t.El} {h:Option (Nat×D)} {ws:List (Nat×Option Row)} (hr:hget X.H id=some (.nest k xs h)) (hu:unf rd k xs h=some (xs',ws)):
  ∃X',Mem b X'∧Le X X'∧X'.w=X.w∧X'.S=X.S∧X'.H=(setWrites X.H ws).set id (.live (.nest k xs' none))∧xs'.length=xs.length∧∃ids:List Nat,ws=ids.map (fun i=>(i,none))∧nodupB ids=true∧∀r∈ids,∃e t zs,hget X.H r=some (.data e t zs):=by
 obtain⟨X',h1,h2,h3,h4,h5,h6,ids,h7,h8,h9,_⟩:=mem_unf' M hrd hr hu;exact⟨X',h1,h2,h3,h4,h5,h6,ids,h7,h8,h9⟩
theorem set_drop {α:Type} (l:List α) (p off s:Nat) (a:α) (h:off+s≤p∨p<off):((l.set p a).drop off).take s=(l.drop off).take s:=by
 apply List.ext_getElem?;intro q;simp only[List.getElem?_take,List.getElem?_drop,List.getElem?_set];by_cases hq:q<s
 ·rw[if_pos hq,if_pos hq,if_neg (by omega)]
 ·rw[if_neg hq,if_neg hq]
theorem nestEl_cells {k:NK} {x:k.t.El} {us:List Value} {o:Option Pl} {h:Option D} (E:NestEl X k x us o h) (hl:us.length=k.t.size) {dc:D} (hd:∀v,us[k.p]? =some v→RelD X dc v):RelDs X ((k.t.cells x).set k.p dc) us:=by
 refine relDs_of_get (by rw[List.length_set,ty_cells_length,hl]) fun q d u hq hu=> ?_;rw[List.getElem?_set] at hq;by_cases hp:k.p=q
 ·subst hp;rw[if_pos rfl] at hq;split at hq
  ·cases hq;exact hd u hu
  ·cases hq
 ·rw[if_neg hp] at hq;obtain⟨v,hv,hr⟩:=E.flat q d (fun e=>hp e.symm) hq;rw[hu] at hv;cases hv;exact hr
section
variable {P:Program}
theorem s_load_nest (M:Mem b X) {t:TypeId} {i:TypeInfo} (hi:P.info? t=some i) (hu:(P.underlying t).isSome=true) {id j off:Nat} {u:Value} (h:RelD X (.ptr id j off) u) {k:NK} {xs:List k.t.El} {hh:Option (Nat×D)}
  (hr:hget X.H id=some (.nest k xs hh)) (hfit:off+i.size≤k.t.size) (hj:j<xs.length) {dc d:D} (hdc:∀l cs us v,X.ρ id=some l→NestRow X k xs hh l cs us→((us.drop (j*k.t.size)).take k.t.size)[k.p]? =some v→RelD X dc v)
  (hv:valD P t ((((k.t.cells (xs.getD j k.t.dflt)).set k.p dc).drop off).take i.size)=some d):
  ∃v,(Instr.loadAt t u).run P X.w= .ok v X.w∧RelD X d v:=by
 rcases nest_row M hr with⟨_,rfl⟩|⟨l,cs,us,hρ,N⟩
 ·simp at hj
 simp only[RelD] at h;rw[hget_live.1 hr] at h;obtain⟨l',hl',e⟩:=h;rw[Ctx.pl_of hρ] at hl';cases hl';subst e;have hx:xs[j]? =some (xs.getD j k.t.dflt):=by simp[gE,hj]
 have hcells:=nestEl_cells (N.el j _ hx) (piece_len N.ul hj) (hdc l cs us · hρ N);have:=valD_load (P:=P) (X:=X) (a:=⟨l.b,l.o+(j*k.t.size+off),none⟩) hi hu (relDs_take i.size (relDs_drop off hcells)) (by simp[ty_cells_length];omega) hv (fun q v hq=>by
  rw[add_plain,cell_of_row _ _ _ _ _ _ N.hb];rw[List.getElem?_take] at hq;split at hq
  ·rw[List.getElem?_drop,List.getElem?_take] at hq;split at hq
   ·rw[List.getElem?_drop] at hq;have:=N.cs _ _ hq;rw[←this];congr 1
    omega
   ·cases hq
  ·cases hq)
 obtain⟨v,hv1,hv2⟩:=this;exact⟨v,by simpa [Instr.loadAt,Instr.sureAddr] using hv1,hv2⟩
theorem s_store_nest (M:Mem b X) {t:TypeId} {i:TypeInfo} (hi:P.info? t=some i) {id j:Nat} {u v:Value} {k:NK} (h:RelD X (.ptr id j k.p) u) {xs:List k.t.El} {hh:Option (Nat×D)} (hr:hget X.H id=some (.nest k xs hh))
  (hhj:∀q,q≠j→holeAt hh q=none) (hj:j<xs.length) {d:D} (hv0:RelDs X [d] v.cells.toList) (hc:cellB d=true) (hs:i.size=1):
  ∃X',(Instr.storeAt t u v).run P X.w= .ok () X'.w∧Mem b X'∧Le X X'∧X'.H=X.H.set id (.live (.nest k xs (some (j,d)))):=by
 have hlen:id<X.H.length:=lt_of_slot (by rw[hget_live.1 hr];simp);rcases nest_row M hr with⟨_,rfl⟩|⟨l,cs,us,hρ,N⟩
 ·simp at hj
 simp only[RelD] at h;rw[hget_live.1 hr] at h;obtain⟨l',hl',e⟩:=h;rw[Ctx.pl_of hρ] at hl';cases hl';subst e;obtain⟨v',h2',hv⟩:=relDs_one.1 hv0;have h2:v.cells= #[v']:=by rw[←Array.toList_inj,h2']
 clear hv0
 have h1:=(cell_one hc hv).1;have hli:hget X.H id≠none:=by rw[hr];simp
 have hp:=atP_lt k.t (NK.ok_at N.ok);have hjn:(j+1)*k.t.size≤xs.length*k.t.size:=Nat.mul_le_mul_right _ hj;rw[Nat.add_mul,Nat.one_mul] at hjn;have ha:j*k.t.size+k.p<us.length:=by rw[N.ul];omega
 have hsz:l.o+(j*k.t.size+k.p)+1≤cs.size:=by rw[N.hn];have:=N.fit;omega
 have hst:=run_storeCells_at (P:=P) l.b (l.o+(j*k.t.size+k.p)) k.e [v'] 0 cs X.w N.hb (by simpa using hsz) (by simpa using h1);simp only[Nat.add_zero,List.length_singleton] at hst;have hset:=setRow_heap X.w l.b cs (cs.toList.take (l.o+(j*k.t.size+k.p))++[v']++cs.toList.drop (l.o+(j*k.t.size+k.p)+1)).toArray k.e (0,0) N.hb;have hcs':(cs.toList.take (l.o+(j*k.t.size+k.p))++[v']++cs.toList.drop (l.o+(j*k.t.size+k.p)+1)).toArray=(cs.toList.set (l.o+(j*k.t.size+k.p)) v').toArray:=by
  rw[List.set_eq_take_append_cons_drop,if_pos (by rw[Array.length_toList];omega)];simp
 rw[hcs'] at hst hset;generalize hw':X.w.setRow l.b (cs.toList.set (l.o+(j*k.t.size+k.p)) v').toArray=w' at hst hset
 have hother:∀q,q≠l.b→w'.heap[q]? =X.w.heap[q]? :=fun q hq=>by rw[←hw'];exact setRow_other X.w l.b q _ hq
 have hil:j<l.inn.length:=by rw[N.il];exact hj
 have hsub:∀q∈(l.inP j none).bs,q∈l.bs:=fun q hq=>by rw[←inn_self hil];exact(bs_in hil).2 (.inl hq)
 have hnd:=N.nd;rw[←inn_self hil] at hnd;have hnd1:=((nd_in hil).1 hnd).1;obtain⟨M',L'⟩:=mem_set M hlen (.nest k xs (some (j,d))) (l.inP j none) w' (.inr ⟨_,hr,rfl,(show X.pl id=some l.toPl from Ctx.pl_of hρ)⟩) (by rw[←hw'];rfl) (by rw[←hw'];rfl) (by rw[←hw'];rfl) (by rw[←hw'];simp) (fun q _ h=>hother q h)
  (fun q p hq hq1 hp z hz hz2=>hq (M.inj q id p l hq1 hli hp hρ z hz (hsub z hz2))) (fun q hq=>M.sep id l hli hρ q (hsub q hq)) (fun q hq=>M.fresh id l hli hρ q (hsub q hq)) trivial
  (fun hle=>NestRow.row (cs:=(cs.toList.set (l.o+(j*k.t.size+k.p)) v').toArray) (us:=us.set (j*k.t.size+k.p) v') ⟨hset,by simp[N.hn,Loc.inP],N.ok,hnd1,by rw[←N.il];simp[Loc.inP],by rw[List.length_set];exact N.ul,by
    intro w hw;rcases List.mem_or_eq_of_mem_set hw with hw|hw
    ·exact N.one w hw
    ·rw[hw];exact h1,by rw[List.length_set];exact N.fit,by
    intro q w hq;rw[List.getElem?_set] at hq;show(cs.toList.set _ v').toArray[l.o+q]? =some w;rw[List.getElem?_toArray,List.getElem?_set];by_cases e:j*k.t.size+k.p=q
    ·rw[if_pos e,if_pos ha] at hq;rw[if_pos (by omega),if_pos (by rw[Array.length_toList];omega)];exact hq
    ·rw[if_neg e] at hq;rw[if_neg (by omega)];simpa using N.cs q w hq,by
    intro q x hx;have hql:q<xs.length:=(List.getElem?_eq_some_iff.1 hx).1;by_cases e:j=q
    ·subst e;have E:=N.el j x hx;have epc:∀z,(((us.set (j*k.t.size+k.p) v').drop (j*k.t.size)).take k.t.size)[z]? =if z=k.p then some v' else((us.drop (j*k.t.size)).take k.t.size)[z]? :=by
      intro z;rw[List.getElem?_take,List.getElem?_take,List.getElem?_drop,List.getElem?_drop,List.getElem?_set];by_cases hz:z=k.p
      ·subst hz;rw[if_pos hp,if_pos rfl,if_pos rfl,if_pos ha]
      ·rw[if_neg hz];by_cases hz2:z<k.t.size
       ·rw[if_pos hz2,if_pos hz2,if_neg (by omega)]
       ·rw[if_neg hz2,if_neg hz2]
     refine⟨fun z c hz hcz=> ?_,v',by rw[epc,if_pos rfl],?_⟩
     ·obtain⟨w,e1,e2⟩:=E.flat z c hz hcz;exact⟨w,by rw[epc,if_neg hz];exact e1,hle.d e2⟩
     ·have e1:holeAt (some (j,d)) j=some d:=by simp[holeAt]
      rw[e1];refine⟨?_,hle.d hv⟩;show(l.inn.set j none).getD j none=none;rw[getD_set,if_pos ⟨rfl,hil⟩]
    ·have hqn:(q+1)*k.t.size≤xs.length*k.t.size:=Nat.mul_le_mul_right _ hql;rw[Nat.add_mul,Nat.one_mul] at hqn;have epc:((us.set (j*k.t.size+k.p) v').drop (q*k.t.size)).take k.t.size=(us.drop (q*k.t.size)).take k.t.size:=by
      apply List.ext_getElem?;intro z;rw[List.getElem?_take,List.getElem?_take,List.getElem?_drop,List.getElem?_drop,List.getElem?_set];by_cases hz:z<k.t.size
      ·rw[if_pos hz,if_pos hz,if_neg];rcases Nat.lt_or_gt_of_ne e with h|h
       ·have:(j+1)*k.t.size≤q*k.t.size:=Nat.mul_le_mul_right _ h;rw[Nat.add_mul,Nat.one_mul] at this;omega
       ·have:(q+1)*k.t.size≤j*k.t.size:=Nat.mul_le_mul_right _ h;rw[Nat.add_mul,Nat.one_mul] at this;omega
      ·rw[if_neg hz,if_neg hz]
     rw[epc];have e1:holeAt (some (j,d)) q=holeAt hh q:=by rw[hhj q (fun e'=>e e'.symm)];simp[holeAt,e]
     have e2:(l.inP j none).inn.getD q none=l.inn.getD q none:=by
      show(l.inn.set j none).getD q none=_;rw[getD_set,if_neg (fun e'=>e e'.1)]
     rw[e1,e2];refine nestEl_le hle (fun p hp'=>hother p.b (fun e3=> ?_)) (N.el q x hx);have hnd2:=N.nd;unfold Loc.bs at hnd2;refine(List.nodup_cons.1 hnd2).1 ?_;rw[List.mem_filterMap];rw[gE] at hp';cases hq:l.inn[q]? with
     |none=>rw[hq] at hp';cases hp'
     |some o=>rw[hq] at hp';simp only[Option.getD_some] at hp';subst hp';exact⟨some p,List.mem_of_getElem? hq,by rw[←e3];rfl⟩⟩)
 refine⟨_,?_,M',L',rfl⟩;have hsz':v.cells.size=i.size:=by rw[h2,hs];rfl
 simp only[Instr.storeAt,Instr.sureAddr,storeVar];simp[run_sizeOf' hi,hs,h2,hst,Ctx.put]
theorem mem_build (M:Mem b X) (ids:List Nat) (hnd:nodupB ids=true) (hlive:∀id∈ids,hget X.H id≠none) {nid:Nat} (hf:slot X.H nid= .free) (hl:nid<X.H.length) (hn:b.n≤nid) (r:Row) (l:Loc) (w':World)
  (hos:w'.os=X.w.os) (htape:w'.tape=X.w.tape) (hout:w'.output=X.w.output) (hsz:X.w.heap.size≤w'.heap.size) (hother:∀k,k<X.w.heap.size→k≠l.b→w'.heap[k]? =X.w.heap[k]?)
  (hbs:∀q∈l.bs,(∃d,d∈ids∧∃p,X.ρ d=some p∧q∈p.bs)∨X.w.heap.size≤q) (hok:r.okLoc l) (hc:∀Y,Le X Y→Y.w=w'→Y.S=X.S→RelRow Y r (some l)):
  ∃X',Mem b X'∧Le X X'∧X'.w=w'∧X'.S=X.S∧X'.H=setWrites (X.H.set nid (.live r)) (ids.map fun i=>(i,none))∧X'.pl nid=some l.toPl∧slot X'.H nid= .live r:=by
 obtain⟨M1,L1⟩:=mem_drops ids M hnd hlive;have hni:nid∉ids:=fun h=>by
  apply hlive nid h;unfold hget;rw[hf]
 have hf1:slot (goneX X ids).H nid= .free:=by rw[show slot (goneX X ids).H nid=slot X.H nid from gone_slot hni];exact hf
 have hl1:nid< (goneX X ids).H.length:=by show nid< (setWrites X.H _).length;rw[setWrites_length];exact hl
 obtain⟨M2,L2⟩:=mem_set M1 hl1 r l w' (.inl ⟨hf1,hn⟩) hos htape hout hsz hother
  (fun j p hj hj1 hp q hq hq2=>by
   have hj2:j∉ids∧hget X.H j≠none:=by
    by_cases e:j∈ids
    ·exfalso;apply hj1;have:slot (goneX X ids).H j= .dead:=by
      have hjl:j<X.H.length:=lt_of_slot (by
       intro h0;apply hlive j e;unfold hget;rw[h0])
      have:∀(ids:List Nat) (H:Heap),j<H.length→j∈ids→slot (setWrites H (ids.map fun i=>(i,none))) j= .dead:=by
       intro ids;induction ids with
       |nil=>intro H _ h;simp at h
       |cons a ids ih=>
        intro H hH h;simp only[List.map_cons,setWrites];by_cases h1:j∈ids
        ·exact ih _ (by simpa using hH) h1
        ·rw[gone_slot h1];rcases List.mem_cons.1 h with h2|h2
         ·subst h2;rw[slot_set,if_pos ⟨rfl,hH⟩];rfl
         ·exact absurd h2 h1
      exact this ids X.H hjl e
     unfold hget;rw[this]
    ·refine⟨e,?_⟩;unfold hget at hj1⊢;rwa [show slot (goneX X ids).H j=slot X.H j from gone_slot e] at hj1
   have hp':X.ρ j=some p:=hp;rcases hbs q hq2 with⟨d,hd,p2,h1,h2⟩|h
   ·have:=M.inj j d p p2 hj2.2 (hlive d hd) hp' h1 q hq h2;exact hj2.1 (by rw[this];exact hd)
   ·have:=M.lts hj2.2 hp' q hq;omega)
  (fun q hq=>by
   rcases hbs q hq with⟨d,hd,p2,h1,h2⟩|h
   ·exact M.sep d p2 (hlive d hd) h1 q h2
   ·intro hS;have:=M.stab q hS;omega)
  (fun q hq=>by
   rcases hbs q hq with⟨d,hd,p2,h1,h2⟩|h
   ·exact M.fresh d p2 (hlive d hd) h1 q h2
   ·exact .inl (Nat.le_trans M.size h)) hok (fun hle=>hc _ (L1.trans hle) rfl rfl)
 refine⟨_,M2,L1.trans L2,rfl,rfl,?_,by simp[Ctx.pl,Ctx.put],slot_put _ _ _ _ _ hl1⟩;show(setWrites X.H _).set nid _=_;rw[setWrites_set _ _ _ _ (fun p hp e=>by
  obtain⟨a,ha,rfl⟩:=List.mem_map.1 hp;exact hni (e▸ha))]
theorem mem_build0 (M:Mem b X) (ids:List Nat) (hnd:nodupB ids=true) (hlive:∀id∈ids,hget X.H id≠none) {nid:Nat} (hf:slot X.H nid= .free) (hl:nid<X.H.length) (hn:b.n≤nid) (r:Row) (hr:∀Y,RelRow Y r none):
  ∃X',Mem b X'∧Le X X'∧X'.w=X.w∧X'.S=X.S∧X'.H=setWrites (X.H.set nid (.live r)) (ids.map fun i=>(i,none))∧slot X'.H nid= .live r:=by
 obtain⟨M1,L1⟩:=mem_drops ids M hnd hlive;have hni:nid∉ids:=fun h=>by
  apply hlive nid h;unfold hget;rw[hf]
 have hf1:slot (goneX X ids).H nid= .free:=by rw[show slot (goneX X ids).H nid=slot X.H nid from gone_slot hni];exact hf
 have hl1:nid< (goneX X ids).H.length:=by show nid< (setWrites X.H _).length;rw[setWrites_length];exact hl
 obtain⟨M2,L2⟩:=mem_virt' M1 hf1 hl1 hn r hr;refine⟨_,M2,L1.trans L2,rfl,rfl,?_,slot_put _ _ _ _ _ hl1⟩;show(setWrites X.H _).set nid _=_;rw[setWrites_set _ _ _ _ (fun p hp e=>by
  obtain⟨a,ha,rfl⟩:=List.mem_map.1 hp;exact hni (e▸ha))]
end
def NestEls (X:Ctx) (k:NK) (xs:List k.t.El) (us:List Value) (inn:List (Option Pl)):Prop:=
 us.length=xs.length*k.t.size∧inn.length=xs.length∧∀j x,xs[j]? =some x→NestEl X k x ((us.drop (j*k.t.size)).take k.t.size) (inn.getD j none) none
theorem nestEls_append {k:NK} {xs ys:List k.t.El} {us vs:List Value} {is js:List (Option Pl)} (h1:NestEls X k xs us is) (h2:NestEls X k ys vs js):NestEls X k (xs++ys) (us++vs) (is++js):=by
 obtain⟨a1,a2,a3⟩:=h1;obtain⟨b1,b2,b3⟩:=h2;refine⟨by rw[List.length_append,List.length_append,a1,b1,Nat.add_mul],by rw[List.length_append,List.length_append,a2,b2],fun j x hx=> ?_⟩;by_cases hj:j<xs.length
 ·rw[List.getElem?_append_left hj] at hx;have:=a3 j x hx;have hjn:(j+1)*k.t.size≤xs.length*k.t.size:=Nat.mul_le_mul_right _ hj;rw[Nat.add_mul,Nat.one_mul] at hjn;have e1:((us++vs).drop (j*k.t.size)).take k.t.size=(us.drop (j*k.t.size)).take k.t.size:=by
   rw[List.drop_append_of_le_length (by omega),List.take_append_of_le_length (by simp;omega)]
  have e2:(is++js).getD j none=is.getD j none:=by
   simp only[gE];rw[List.getElem?_append_left (by omega)]
  rw[e1,e2];exact this
 ·rw[List.getElem?_append_right (by omega)] at hx;have:=b3 _ x hx;have e0:j*k.t.size=us.length+(j-xs.length)*k.t.size:=by
   rw[a1,←Nat.add_mul];congr 1;omega
  have e1:((us++vs).drop (j*k.t.size)).take k.t.size=(vs.drop ((j-xs.length)*k.t.size)).take k.t.size:=by
   rw[e0,←List.drop_drop,List.drop_left]
  have e2:(is++js).getD j none=js.getD (j-xs.length) none:=by
   simp only[gE];rw[List.getElem?_append_right (by omega),a2]
  rw[e1,e2];exact this
theorem nestEls_take {k:NK} {xs:List k.t.El} {us:List Value} {is:List (Option Pl)} (h:NestEls X k xs us is) {n:Nat} (hn:n≤xs.length):NestEls X k (xs.take n) (us.take (n*k.t.size)) (is.take n):=by
 obtain⟨a1,a2,a3⟩:=h;have hm:n*k.t.size≤xs.length*k.t.size:=Nat.mul_le_mul_right _ hn;refine⟨by simp only[List.length_take];rw[Nat.min_eq_left hn];omega,by simp only[List.length_take];omega,fun j x hx=> ?_⟩;rw[List.getElem?_take] at hx;split at hx
 ·rename_i hj;have:=a3 j x hx;have hjn:(j+1)*k.t.size≤n*k.t.size:=Nat.mul_le_mul_right _ hj;rw[Nat.add_mul,Nat.one_mul] at hjn;have e1:((us.take (n*k.t.size)).drop (j*k.t.size)).take k.t.size=(us.drop (j*k.t.size)).take k.t.size:=by
   rw[List.drop_take,List.take_take];congr 1;omega
  have e2:(is.take n).getD j none=is.getD j none:=by
   simp only[gE];rw[List.getElem?_take,if_pos hj]
  rw[e1,e2];exact this
 ·cases hx
theorem nestEls_le {Y:Ctx} (h:Le X Y) {k:NK} {xs:List k.t.El} {us:List Value} {is:List (Option Pl)} (hw:∀p,some p∈is→Y.w.heap[p.b]? =X.w.heap[p.b]?) (E:NestEls X k xs us is):NestEls Y k xs us is:=by
 obtain⟨a1,a2,a3⟩:=E;refine⟨a1,a2,fun j x hx=>nestEl_le h (fun p hp=>hw p ?_) (a3 j x hx)⟩;rw[gE] at hp;cases hq:is[j]? with
 |none=>rw[hq] at hp;cases hp
 |some o=>rw[hq] at hp;simp only[Option.getD_some] at hp;subst hp;exact List.mem_of_getElem? hq
theorem nest_src (M:Mem b X) {id len:Nat} {cap:Option Nat} {k:NK} {xs:List k.t.El} (hr:hget X.H id=some (.nest k xs none)) {u:Value} (h:RelD X (.own id 0 len cap) u):
  len≤xs.length∧∃A c us is,u= .slice A len c∧len≤c∧(A=none→us=[])∧NestEls X k (xs.take len) us is∧(∀w,w∈us→w.oneCell'=true)∧At (fun _=>True) X.w A us∧
   (is.filterMap (Option.map Pl.b)).Nodup∧(∀p,some p∈is→∃l,X.ρ id=some l∧p.b∈l.bs∧p.b≠l.b)∧(cap=none→xs.length≤c)∧
   (c=0∨∃l cs,X.ρ id=some l∧A=some ⟨l.b,l.o,none⟩∧l.o+c*k.t.size≤l.n∧X.w.heap[l.b]? =some (.cells cs k.e (0,0))∧cs.size=l.n):=by
 simp only[RelD] at h;rw[hget_live.1 hr] at h;obtain⟨h1,A,c,rfl,h3,h4,h5,h6,h7⟩:=h;refine⟨by omega,?_⟩;rcases nest_row M hr with⟨hρ,rfl⟩|⟨l,cs,us,hρ,N⟩
 ·have hl0:len=0:=by simp at h1;omega
  subst hl0;have hc0:c=0:=by
   rcases h7 with h|⟨l,hl,_⟩
   ·exact h
   ·unfold Ctx.pl at hl;rw[hρ] at hl;cases hl
  exact⟨A,c,[],[],rfl,h3,fun _=>rfl,⟨by simp,rfl,by simp⟩,by simp,fun j u hj=>by simp at hj,by simp,by simp,fun h=>by have:=h6 h;omega,.inl hc0⟩
 ·have E:NestEls X k xs us l.inn:=⟨N.ul,N.il,fun j x hx=>N.el j x hx⟩;have hnd:=N.nd;unfold Loc.bs at hnd;rw[List.nodup_cons] at hnd;refine⟨A,c,us.take (len*k.t.size),l.inn.take len,rfl,h3,?_,nestEls_take E (by omega),fun w hw=>N.one w (List.mem_of_mem_take hw),?_,?_,?_,fun h=>by have:=h6 h;omega,?_⟩
  ·intro hA;have:=h4 hA;have hl0:len=0:=by omega
   subst hl0;simp
  ·intro j w hj;rw[List.getElem?_take] at hj;split at hj
   ·rename_i hj2;have hc0:c≠0:=by
     intro hc;have hl0:len=0:=by omega
     subst hl0;simp at hj2
    obtain⟨p,hp,hA,hb⟩:=h7.resolve_left hc0;rw[Ctx.pl_of hρ] at hp;cases hp;refine⟨_,hA,trivial,?_⟩;rw[add_plain,cell_of_row _ _ _ _ _ _ N.hb];have:=N.cs j w hj;simpa using this
   ·cases hj
  ·rw[←List.take_append_drop len l.inn,List.filterMap_append,List.nodup_append] at hnd;exact hnd.2.1
  ·intro p hp;have hm:p.b∈l.inn.filterMap (Option.map Pl.b):=List.mem_filterMap.2 ⟨some p,List.mem_of_mem_take hp,rfl⟩;exact⟨l,hρ,by unfold Loc.bs;exact List.mem_cons_of_mem _ hm,fun e=>hnd.1 (e▸hm)⟩
  ·rcases h7 with h|⟨p,hp,hA,hb⟩
   ·exact .inl h
   ·rw[Ctx.pl_of hρ] at hp;cases hp;exact .inr ⟨l,cs,hρ,by simpa using hA,by simpa using hb,N.hb,N.hn⟩
theorem nestEls_row {k:NK} (hk:k.ok=true) {xs:List k.t.El} {us:List Value} {l:Loc} {cs:Array Value} (E:NestEls X k xs us l.inn) (hb:X.w.heap[l.b]? =some (.cells cs k.e (0,0))) (hn:cs.size=l.n) (hnd:l.bs.Nodup)
  (hone:∀u,u∈us→u.oneCell'=true) (hfit:l.o+us.length≤l.n) (hcs:∀j u,us[j]? =some u→cs[l.o+j]? =some u):RelRow X (.nest k xs none) (some l):=
 NestRow.row ⟨hb,hn,hk,hnd,E.2.1,E.1,hone,hfit,hcs,fun j x hx=>E.2.2 j x hx⟩
section
variable {P:Program}
theorem s_append_nest (M:Mem b X) {nid:Nat} (hf:slot X.H nid= .free) (hl:nid<X.H.length) (hn:b.n≤nid)
  {t t' e e' oty:TypeId} {z:List D} (ht:P.underlying t=some (.slice e)) (ht':P.underlying t'=some (.slice e')) (hz:zeroD P e=some z)
  {k:NK} (hk:k.ok=true) (he:e=k.e) (hsz:k.t.size=P.cellsOf e) {xs ys:List k.t.El} {us vs:List Value} {is js:List (Option Pl)} (hx:NestEls X k xs us is) (hy:NestEls X k ys vs js)
  (ou:∀w,w∈us→w.oneCell'=true) (ov:∀w,w∈vs→w.oneCell'=true) {A A2:Option Addr} {c c2:Nat} (hc:xs.length≤c) (hA:A=none→us=[]) (hA2:A2=none→vs=[]) (hAt:At (fun _=>True) X.w A us) (hAt2:At (fun _=>True) X.w A2 vs)
  (ids:List Nat) (hnd:nodupB ids=true) (hlive:∀id∈ids,hget X.H id≠none)
  (hblk:∀p,some p∈is++js→∃d,d∈ids∧∃l,X.ρ d=some l∧p.b∈l.bs∧p.b≠l.b) (hpn:((is++js).filterMap (Option.map Pl.b)).Nodup)
  (hplace:c=0∨∃d l cs,d∈ids∧X.ρ d=some l∧A=some ⟨l.b,l.o,none⟩∧l.o+c*k.t.size≤l.n∧X.w.heap[l.b]? =some (.cells cs k.e (0,0))∧cs.size=l.n)
  (hroom:roomy P e (xs.length+ys.length)):
  ∃v X',(Builtin.append_ #[t,t'] oty #[.slice A xs.length c,.slice A2 ys.length c2]).run P X.w= .ok v X'.w∧Mem b X'∧X'.H=setWrites (X.H.set nid (.live (.nest k (xs++ys) none))) (ids.map fun i=>(i,none))∧Le X X'∧RelD X' (.own nid 0 (xs.length+ys.length) none) v:=by
 subst he;obtain⟨i,zv,hi,hz',hs,ho,rfl⟩:=zeroD_some hz;have hsz':k.t.size=i.size:=by rw[hsz];simp[Program.cellsOf,hi]
 have E:=nestEls_append hx hy;have hul:=hx.1;have hvl:=hy.1;have hone:∀w,w∈us++vs→w.oneCell'=true:=fun w hw=>by
  rcases List.mem_append.1 hw with h|h
  ·exact ou w h
  ·exact ov w h
 have hlen:(xs++ys).length=xs.length+ys.length:=List.length_append;have hin:∀{bb oo nn:Nat} {q:Nat},q∈(⟨⟨bb,oo,nn⟩,is++js⟩:Loc).bs→q=bb∨∃p,some p∈is++js∧p.b=q:=by
  intro bb oo nn q hq;unfold Loc.bs at hq;rcases List.mem_cons.1 hq with h|h
  ·exact .inl h
  ·obtain⟨o,ho,h2⟩:=List.mem_filterMap.1 h;cases o with
   |none=>cases h2
   |some p=>exact .inr ⟨p,ho,Option.some.inj h2⟩
 have hplt:∀p,some p∈is++js→p.b<X.w.heap.size:=fun p hp=>by
  obtain⟨d,hd,l,h1,h2,_⟩:=hblk p hp;exact M.lts (hlive d hd) h1 _ h2
 have hown:∀(Y:Ctx) (p:Pl) (c':Nat),slot Y.H nid= .live (.nest k (xs++ys) none)→Y.pl nid=some p→xs.length+ys.length≤c'→p.o+c'*k.t.size≤p.n→RelD Y (.own nid 0 (xs.length+ys.length) none) (.slice (some ⟨p.b,p.o,none⟩) (xs.length+ys.length) c'):=by
  intro Y p c' h1 h2 h3 h4;simp only[RelD];rw[h1];exact⟨by rw[hlen];omega,_,c',rfl,h3,by simp,by simp,fun _=>by rw[hlen];omega,.inr ⟨p,h2,by simp,by simpa using h4⟩⟩
 by_cases hfit:xs.length+ys.length≤c
 ·by_cases hc0:c=0
  ·have hx0:xs=[]:=List.eq_nil_of_length_eq_zero (by omega);have hy0:ys=[]:=List.eq_nil_of_length_eq_zero (by omega);subst hx0;subst hy0;subst hc0;have hv0:vs=[]:=List.eq_nil_of_length_eq_zero (by rw[hvl];simp);subst hv0;obtain⟨X',M',L',h1,h2,h3,h4⟩:=mem_build0 M ids hnd hlive hf hl hn (.nest k ([]++[]) none) (fun Y=>show([]++[]:List k.t.El)=[] from rfl);refine⟨.slice A 0 0,X',?_,M',h3,L',?_⟩
   ·rw[h1];exact run_append_none ht ht' hi X.w A A2 0 0 c2 (Nat.le_refl _) (run_firstCells_at (us:=[]) (by simp) (fun _=>rfl) hAt2 X.w rfl)
   ·simp only[RelD];rw[h4];exact⟨by simp,A,0,rfl,Nat.le_refl _,fun _=>rfl,by simp,by simp,.inl rfl⟩
  ·obtain⟨d,l,acs,hd,hρ,hA1,hbound,hb,hacn⟩:=hplace.resolve_left hc0;subst hA1;have hfn:=run_firstCells_at (P:=P) (c:=c2) (m:=ys.length) (size:=i.size) (by rw[hvl,hsz']) hA2 hAt2 X.w rfl;have hmul:(xs.length+ys.length)*k.t.size≤c*k.t.size:=Nat.mul_le_mul_right _ hfit;rw[Nat.add_mul] at hmul;have hbig:l.o+xs.length*i.size+vs.length≤acs.size:=by
    rw[hacn,hvl,←hsz'];omega
   have hrun:=run_append_fit (ty:=oty) ht ht' hi X.w l.b l.o xs.length c A2 ys.length c2 acs k.e hb (by rw[hvl,hsz']) hfn ov hfit hbig;have hset:=setRow_heap X.w l.b acs (acs.toList.take (l.o+xs.length*i.size)++vs++acs.toList.drop (l.o+xs.length*i.size+vs.length)).toArray k.e (0,0) hb;have hother:∀q,q≠l.b→(X.w.setRow l.b (acs.toList.take (l.o+xs.length*i.size)++vs++acs.toList.drop (l.o+xs.length*i.size+vs.length)).toArray).heap[q]? =X.w.heap[q]? :=fun q hq=>setRow_other X.w l.b q _ hq;have hpl:∀p,some p∈is++js→p.b≠l.b:=fun p hp e=>by
    obtain⟨d',hd',l',h1,h2,h3⟩:=hblk p hp;have:=M.inj d' d l' l (hlive d' hd') (hlive d hd) h1 hρ p.b h2 (by rw[e];exact l.b_in);subst this;rw[hρ] at h1;cases h1;exact h3 e
   obtain⟨X',M',L',h1,h2,h3,h4,h5⟩:=mem_build M ids hnd hlive hf hl hn (.nest k (xs++ys) none) ⟨⟨l.b,l.o,l.n⟩,is++js⟩
    (X.w.setRow l.b (acs.toList.take (l.o+xs.length*i.size)++vs++acs.toList.drop (l.o+xs.length*i.size+vs.length)).toArray) rfl rfl rfl (by simp) (fun q _ hq=>hother q hq)
    (fun q hq=>by
     rcases hin hq with h|⟨p,hp,h⟩
     ·exact .inl ⟨d,hd,l,hρ,by rw[h];exact l.b_in⟩
     ·obtain⟨d',hd',l',h1,h2,h3⟩:=hblk p hp;exact .inl ⟨d',hd',l',h1,by rw[←h];exact h2⟩) trivial
    (fun Y hle hYw hYS=>by
     refine nestEls_row hk (l:=⟨⟨l.b,l.o,l.n⟩,is++js⟩) (nestEls_le hle (fun p hp=>by rw[hYw];exact hother _ (hpl p hp)) E) (by rw[hYw];exact hset) ?_ ?_ hone ?_ ?_
     ·rw[←hacn];simp;omega
     ·unfold Loc.bs;rw[List.nodup_cons];refine⟨fun h=> ?_,hpn⟩;obtain⟨o,ho,h2⟩:=List.mem_filterMap.1 h;cases o with
      |none=>cases h2
      |some p=>exact hpl p ho (Option.some.inj h2)
     ·show l.o+_≤l.n;rw[List.length_append,hul,hvl];omega
     ·intro j w hj;show(List.toArray _)[l.o+j]? =_;simp only[List.getElem?_toArray];rw[list_splice _ _ _ (by rw[Array.length_toList];omega)];rw[List.getElem?_append] at hj;by_cases hju:j<us.length
      ·rw[if_pos hju] at hj;rw[if_pos (by rw[←hsz',←hul];omega)];obtain⟨a,ea,_,hcell⟩:=hAt j w hj;cases ea;rw[add_plain,cell_of_row _ _ _ _ _ _ hb] at hcell;simpa using hcell
      ·rw[if_neg hju] at hj;have hjv:j-us.length<vs.length:=(List.getElem?_eq_some_iff.1 hj).1;rw[if_neg (by rw[←hsz',←hul];omega),if_pos (by rw[←hsz',←hul];omega),←hj];congr 1
       rw[←hsz',←hul];omega)
   refine⟨_,X',by rw[h1];exact hrun,M',h3,L',?_⟩;exact hown X' ⟨l.b,l.o,l.n⟩ c h5 h4 hfit hbound
 ·obtain⟨hroom,hroom2⟩:=hroom;have hby:P.bytesOf k.e=i.bytes:=by simp[Program.bytesOf,hi]
  rw[hby] at hroom;obtain⟨M1,L1⟩:=mem_drew M (X.w.drawn+1) rfl;have h63:((xs.length+ys.length:Nat):Int)≤9223372036854775807:=by omega
  have hfit':=growslice_fits (old:=c) (by omega:c<xs.length+ys.length) hroom;have hfo:=run_firstCells_at (P:=P) (c:=c) (m:=xs.length) (size:=i.size) (by rw[hul,hsz']) hA hAt X.w.drew rfl;have hfn:=run_firstCells_at (P:=P) (c:=c2) (m:=ys.length) (size:=i.size) (by rw[hvl,hsz']) hA2 hAt2 X.w.drew rfl;have hr:=run_append_more (ty:=oty) ht ht' hi hz' X.w A A2 xs.length c ys.length c2 hfo hfn (by omega) h63 hfit';have hge:=grownCap_ge X.w (xs.length+ys.length) c k.e;generalize grownCap X.w (xs.length+ys.length) c k.e=nc at hr hge
  have hzl:(Builtin.zeroCells zv.cells (nc-(xs.length+ys.length))).toList.length=(nc-(xs.length+ys.length))*k.t.size:=by rw[Array.length_toList,size_zeroCells,hs,hsz']
  have hsize:(us++vs++(Builtin.zeroCells zv.cells (nc-(xs.length+ys.length))).toList).toArray.size=nc*k.t.size:=by
   rw[List.size_toArray,List.length_append,List.length_append,hul,hvl,hzl,←Nat.add_mul,←Nat.add_mul];congr 1
   omega
  generalize hall:(us++vs++(Builtin.zeroCells zv.cells (nc-(xs.length+ys.length))).toList).toArray=all at hr hsize
  have hw'o:∀q,q<X.w.heap.size→(X.w.drew.alloc (.cells all k.e)).heap[q]? =X.w.heap[q]? :=fun q hq=>heap_old X.w.drew _ q hq;obtain⟨X',M',L',h1,h2,h3,h4,h5⟩:=mem_build (X:=⟨X.ρ,X.H,X.S,X.w.drew⟩) M1 ids hnd hlive hf hl hn (.nest k (xs++ys) none) ⟨⟨X.w.heap.size,0,all.size⟩,is++js⟩ (X.w.drew.alloc (.cells all k.e)) rfl rfl rfl (by simp) (fun q hq _=>hw'o q hq)
   (fun q hq=>by
    rcases hin hq with h|⟨p,hp,h⟩
    ·exact .inr (by show X.w.heap.size≤q;omega)
    ·obtain⟨d',hd',l',h1,h2,h3⟩:=hblk p hp;exact .inl ⟨d',hd',l',h1,by rw[←h];exact h2⟩) trivial
   (fun Y hle hYw hYS=>by
    refine nestEls_row hk (l:=⟨⟨X.w.heap.size,0,all.size⟩,is++js⟩) (nestEls_le (L1.trans hle) (fun p hp=>by rw[hYw];exact hw'o _ (hplt p hp)) E) (cs:=all) (by rw[hYw];exact heap_new X.w.drew _) rfl ?_ hone ?_ ?_
    ·unfold Loc.bs;rw[List.nodup_cons];refine⟨fun h=> ?_,hpn⟩;obtain⟨o,ho,h2⟩:=List.mem_filterMap.1 h;cases o with
     |none=>cases h2
     |some p=>have:=hplt p ho;have:=Option.some.inj h2;simp at this;omega
    ·show 0+_≤all.size;rw[←hall];simp
    ·intro j u hj;simp only[Nat.zero_add];rw[←hall,List.getElem?_toArray,List.getElem?_append_left]
     ·exact hj
     ·exact(List.getElem?_eq_some_iff.1 hj).1)
  refine⟨_,X',by rw[h1];exact hr,M',h3,L1.trans L',?_⟩;exact hown X' ⟨X.w.heap.size,0,all.size⟩ nc h5 h4 hge (by simp[hsize])
end
theorem ofCells_getP (rd:Nat→Option Row):∀(t:Ty) (cs:List D) (x:t.El) {p:Nat} {u:Ty} {d:D},t.ofCells rd cs=some x→t.atP p=some u→cs[p]? =some d→slC rd u [d]=some (t.getP x p u)
 | .sl t,cs,x,p,u,d,h,ha,hd=>by
  simp only[Ty.atP] at ha;split at ha
  ·rename_i hp;simp only[sI] at ha;subst ha;subst hp;simp only[Ty.ofCells] at h;simp only[Ty.getP,dite_true];have:cs=[d]:=by
    unfold slC at h;split at h<;>simp_all
   rw[this] at h;exact h
  ·cases ha
 | .prod a b,cs,x,p,u,d,h,ha,hd=>by
  simp only[Ty.ofCells] at h;split at h
  ·rename_i x1 y1 h1 h2;simp only[sI] at h;subst h;simp only[Ty.atP] at ha;simp only[Ty.getP];split at ha
   ·rename_i hp;rw[if_pos hp];exact ofCells_getP rd a _ _ h1 ha (by rw[List.getElem?_take,if_pos hp];exact hd)
   ·rename_i hp;rw[if_neg hp];exact ofCells_getP rd b _ _ h2 ha (by rw[List.getElem?_drop];rw[←hd];congr 1;omega)
  ·cases h
 | .int _,_,_,_,_,_,_,ha,_=>by simp[Ty.atP] at ha
 | .bool,_,_,_,_,_,_,ha,_=>by simp[Ty.atP] at ha
 | .str,_,_,_,_,_,_,ha,_=>by simp[Ty.atP] at ha
 | .unit,_,_,_,_,_,_,ha,_=>by simp[Ty.atP] at ha
theorem ofCells_nil (rd:Nat→Option Row):∀(t:Ty) (cs:List D) (x:t.El) {p:Nat} {u:Ty},t.ofCells rd cs=some x→t.atP p=some u→p<cs.length→t.ofCells rd (cs.set p (.v (.slice none 0 0)))=some (t.setP x p u [])
 | .sl t,cs,x,p,u,h,ha,hl=>by
  simp only[Ty.atP] at ha;split at ha
  ·rename_i hp;simp only[sI] at ha;subst ha;subst hp;simp only[Ty.ofCells] at h⊢;have:∃d,cs=[d]:=by
    unfold slC at h;split at h<;>simp_all
   obtain⟨d,rfl⟩:=this;simp[slC,Ty.setP]
  ·cases ha
 | .prod a b,cs,x,p,u,h,ha,hl=>by
  simp only[Ty.ofCells] at h⊢;split at h
  ·rename_i x1 y1 h1 h2;simp only[sI] at h;subst h;simp only[Ty.atP] at ha;simp only[Ty.setP];split at ha
   ·rename_i hp;have e1:(cs.set p (.v (.slice none 0 0))).take a.size=(cs.take a.size).set p (.v (.slice none 0 0)):=by rw[List.take_set]
    have e2:(cs.set p (.v (.slice none 0 0))).drop a.size=cs.drop a.size:=by rw[List.drop_set_of_lt hp]
    rw[e1,e2,ofCells_nil rd a _ _ h1 ha (by simp;omega),h2,if_pos hp]
   ·rename_i hp;have e1:(cs.set p (.v (.slice none 0 0))).take a.size=cs.take a.size:=by rw[List.take_set_of_le (by omega)]
    have e2:(cs.set p (.v (.slice none 0 0))).drop a.size=(cs.drop a.size).set (p-a.size) (.v (.slice none 0 0)):=by
     rw[List.drop_set,if_neg hp]
    rw[e1,e2,h1,ofCells_nil rd b _ _ h2 ha (by simp;omega),if_neg hp]
  ·cases h
 | .int _,_,_,_,_,_,ha,_=>by simp[Ty.atP] at ha
 | .bool,_,_,_,_,_,ha,_=>by simp[Ty.atP] at ha
 | .str,_,_,_,_,_,ha,_=>by simp[Ty.atP] at ha
 | .unit,_,_,_,_,_,ha,_=>by simp[Ty.atP] at ha
theorem relDs_set':∀{ds:List D} {us:List Value} {i:Nat} {d:D} {u:Value},RelDs X ds us→RelD X d u→RelDs X (ds.set i d) (us.set i u)
 | [],us,i,d,u,h,_=>by simp only[RelDs] at h;subst h;simp[RelDs]
 |e::ds,us,0,d,u,h,hd=>by
  simp only[RelDs] at h;obtain⟨v,us',rfl,h1,h2⟩:=h;simp only[List.set_cons_zero,RelDs];exact⟨u,us',rfl,hd,h2⟩
 |e::ds,us,i+1,d,u,h,hd=>by
  simp only[RelDs] at h;obtain⟨v,us',rfl,h1,h2⟩:=h;simp only[List.set_cons_succ,RelDs];exact⟨v,_,rfl,h1,relDs_set' h2 hd⟩
def plD (X:Ctx):D→Option Pl
 | .own r _ _ _=>X.pl r
 |_=>none
theorem one_el (M:Mem b X) {rd:Nat→Option Row} (hrd:∀id r,rd id=some r→hget X.H id=some r) {k:NK} (hk:k.ok=true) {cs:List D} {x:k.t.El} {us:List Value} {d:D} (hx:k.t.ofCells rd cs=some x) (hr:RelDs X cs us)
  (hd:cs[k.p]? =some d) (hb:holeB rd k d=true) (hkl:killIds (cs.set k.p (.v (.slice none 0 0)))=[]):NestEl X k x us (plD X d) none:=by
 have hat:=NK.ok_at hk;have hpl:k.p<cs.length:=(List.getElem?_eq_some_iff.1 hd).1;have h1:=ofCells_nil rd k.t cs x hx hat hpl;have h2:=relDs_set' (i:=k.p) hr (show RelD X (.v (.slice none 0 0)) (.slice none 0 0) by simp only[RelD]);have hE:=(ofCells_rel M (fun _ h=>h) rd hrd k.t _ _ _ h1 h2 (fun id hid=>by rw[hkl] at hid;simp at hid)).1;have hC:=relE_cells X k.t _ _ hE;rw[cells_setP k.t x [] hat] at hC;refine⟨fun q c hq hc=> ?_,?_⟩
 ·obtain⟨v,hv,hv2⟩:=relDs_get (i:=q) hC (by rw[List.getElem?_set,if_neg (fun e=>hq e.symm)];exact hc);rw[List.getElem?_set,if_neg (fun e=>hq e.symm)] at hv;exact⟨v,hv,hv2⟩
 ·obtain⟨v,hv,hv2⟩:=relDs_get hr hd;refine⟨v,hv,?_⟩;have hg:=ofCells_getP rd k.t cs x hx hat hd;show InnerOk X k.e' k.u (k.t.getP x k.p k.u) (plD X d) v;unfold holeB at hb;split at hb
  ·simp only[RelD] at hv2;subst hv2;simp only[slC,sI] at hg;rw[←hg];exact nil_inner
  ·rename_i r off len cap;split at hb
   ·rename_i e u zs hz;simp only[Bool.and_eq_true,decide_eq_true_eq] at hb;obtain⟨⟨rfl,rfl⟩,rfl⟩:=hb;have hg':rowData rd r 0 len k.u=some (k.t.getP x k.p k.u):=hg;unfold rowData at hg';rw[hz] at hg';simp only[dite_true,List.drop_zero,sI] at hg';rw[←hg'];exact own_inner M (hrd _ _ hz) hv2
   ·cases hb
  ·cases hb
def innB (X:Ctx) (k:NK):Nat→List D→List (Option Pl)
 |0,_=> []
 |n+1,cs=>(((cs.take k.t.size)[k.p]?).bind (plD X))::innB X k n (cs.drop k.t.size)
theorem build_els (M:Mem b X) {rd:Nat→Option Row} (hrd:∀id r,rd id=some r→hget X.H id=some r) {k:NK} (hk:k.ok=true):∀(n:Nat) {cs:List D} {xs:List k.t.El} {us:List Value},elems rd k.t n cs=some xs→nestB rd k n cs=true→RelDs X cs us→
  NestEls X k xs us (innB X k n cs)∧(∀p,some p∈innB X k n cs→∃r,r∈killIds cs∧X.pl r=some p)
 |0,cs,xs,us,h,hb,hr=>by
  have hc:cs=[]:=by simpa [nestB] using hb
  subst hc;simp only[elems,sI] at h;subst h;simp only[RelDs] at hr;subst hr;exact⟨⟨by simp,rfl,by simp⟩,by simp[innB]⟩
 |n+1,cs,xs,us,h,hb,hr=>by
  simp only[elems] at h;split at h
  ·rename_i x1 y1 h1 h2;simp only[sI] at h;subst h;simp only[nestB,Bool.and_eq_true] at hb;obtain⟨hb1,hb2⟩:=hb;obtain⟨E2,K2⟩:=build_els M hrd hk n h2 hb2 (relDs_drop k.t.size hr);split at hb1
   ·rename_i d hd;simp only[Bool.and_eq_true,List.isEmpty_iff] at hb1;have E1:=one_el M hrd hk h1 (relDs_take k.t.size hr) hd hb1.1 hb1.2;have hlen:=(ofCells_rel M (S':=fun _=>True) (fun _ _=>trivial) rd hrd k.t _ _ _ h1 (relDs_take k.t.size hr) (fun _ _ _ _ _ _=>trivial)).1;have hl1:=RelE_length k.t _ _ hlen;have E:NestEls X k ([x1]++y1) (us.take k.t.size++us.drop k.t.size) ([plD X d]++innB X k n (cs.drop k.t.size)):=
     nestEls_append ⟨by simpa using hl1,rfl,fun j x hx=>by
      cases j with
      |zero=>
       simp only[List.getElem?_cons_zero,sI] at hx;subst hx;have e1:((us.take k.t.size).drop (0*k.t.size)).take k.t.size=us.take k.t.size:=by rw[Nat.zero_mul,List.drop_zero,List.take_take,Nat.min_self]
       rw[e1];exact E1
      |succ j=>simp at hx⟩ E2
    rw[List.take_append_drop] at E;refine⟨by simpa [innB,hd] using E,fun p hp=> ?_⟩;simp only[innB,hd,Option.bind_some,List.mem_cons] at hp;rcases hp with hp|hp
    ·unfold plD at hp;split at hp
     ·rename_i r off len cap;exact⟨r,killIds_take (n:=k.t.size) (mem_killIds.2 ⟨off,len,cap,List.mem_of_getElem? hd⟩),hp.symm⟩
     ·cases hp
    ·obtain⟨r,h3,h4⟩:=K2 p hp;exact⟨r,killIds_drop (n:=k.t.size) h3,h4⟩
   ·cases hb1
  ·cases h
theorem killIds_append:∀(a c:List D),killIds (a++c)=killIds a++killIds c
 | [],_=>rfl
 |d::a,c=>by
  have:=killIds_append a c;cases d<;>simp[killIds,this]
theorem innB_nodup (M:Mem b X) (k:NK):∀(n:Nat) {cs:List D},(killIds cs).Nodup→(∀r∈killIds cs,hget X.H r≠none)→((innB X k n cs).filterMap (Option.map Pl.b)).Nodup
 |0,cs,_,_=>by simp[innB]
 |n+1,cs,hnd,hl=>by
  have hsplit:killIds cs=killIds (cs.take k.t.size)++killIds (cs.drop k.t.size):=by rw[←killIds_append,List.take_append_drop]
  rw[hsplit,List.nodup_append] at hnd;have ih:=innB_nodup M k n (cs:=cs.drop k.t.size) hnd.2.1 (fun r hr=>hl r (by rw[hsplit];exact List.mem_append_right _ hr));simp only[innB];cases hd:(cs.take k.t.size)[k.p]? with
  |none=>simpa using ih
  |some d=>
   simp only[Option.bind_some];cases hp:plD X d with
   |none=>simpa using ih
   |some p=>
    simp only[List.filterMap_cons,Option.map_some];rw[List.nodup_cons];refine⟨fun h=> ?_,ih⟩;obtain⟨o,ho,e⟩:=List.mem_filterMap.1 h;unfold plD at hp;split at hp
    ·rename_i r off len cap;have hr1:r∈killIds (cs.take k.t.size):=mem_killIds.2 ⟨off,len,cap,List.mem_of_getElem? hd⟩;obtain⟨l,hl1,hl2⟩:=Ctx.pl_some hp;have:∃r',r'∈killIds (cs.drop k.t.size)∧∃q,o=some q∧X.pl r'=some q:=by
      clear ih h hsplit
      have gen:∀(n:Nat) (cs:List D),o∈innB X k n cs→∀q,o=some q→∃r',r'∈killIds cs∧X.pl r'=some q:=by
       intro n;induction n with
       |zero=>intro cs h;simp[innB] at h
       |succ n ih2=>
        intro cs h q hq;simp only[innB,List.mem_cons] at h;rcases h with h|h
        ·rw[hq] at h;cases hd2:(cs.take k.t.size)[k.p]? with
         |none=>rw[hd2] at h;cases h
         |some d2=>
          rw[hd2] at h;simp only[Option.bind_some] at h;unfold plD at h;split at h
          ·rename_i r2 off2 len2 cap2;exact⟨r2,killIds_take (n:=k.t.size) (mem_killIds.2 ⟨off2,len2,cap2,List.mem_of_getElem? hd2⟩),h.symm⟩
          ·cases h
        ·obtain⟨r',h1,h2⟩:=ih2 _ h q hq;exact⟨r',killIds_drop (n:=k.t.size) h1,h2⟩
      cases o with
      |none=>cases e
      |some q=>
       obtain⟨r',h1,h2⟩:=gen n _ ho q rfl;exact⟨r',h1,q,rfl,h2⟩
     obtain⟨r',hr2,q,rfl,hq⟩:=this;obtain⟨l',hl3,hl4⟩:=Ctx.pl_some hq;have e':q.b=p.b:=Option.some.inj e;have:=M.inj r r' l l' (hl r (by rw[hsplit];exact List.mem_append_left _ hr1)) (hl r' (by rw[hsplit];exact List.mem_append_right _ hr2)) hl1 hl3 p.b (by rw[←hl2];exact l.b_in) (by rw[←e',←hl4];exact l'.b_in);exact hnd.2.2 r hr1 r' hr2 this
    ·cases hp
section
variable {P:Program}
theorem s_buildSlice_nest (M:Mem b X) {nid:Nat} (hf:slot X.H nid= .free) (hl:nid<X.H.length) (hn:b.n≤nid) (rd:Nat→Option Row) (hrd:∀id r,rd id=some r→hget X.H id=some r)
  {ev:Operand→D} {va:Operand→Value} (hev:∀x,RelD X (ev x) (va x)) {t e:TypeId} (hu:P.underlying t=some (.slice e)) {k:NK} (hk:k.ok=true) (he:e=k.e) {z:List D} (hz:zeroD P e=some z) (len:Nat) (parts:Array (Nat×Operand))
  (hsz:k.t.size=P.cellsOf e) (h0:k.t.size≠0) (hsmall:len*k.t.size≤4096) {cs:List D} (hfill:fillD (fun i=>some (i*k.t.size,k.t.size)) (List.replicate len z).flatten (parts.toList.map fun p=>(p.1,ev p.2))=some cs)
  {xs:List k.t.El} (hxs:elems rd k.t len cs=some xs) (hnd:nodupB (killIds cs)=true) (hb:nestB rd k len cs=true):
  ∃v X',(Instr.buildSlice t len (parts.map fun p=>(p.1,va p.2))).run P X.w= .ok v X'.w∧Mem b X'∧X'.H=setWrites (X.H.set nid (.live (.nest k xs none))) (kills cs)∧Le X X'∧RelD X' (.own nid 0 len (some len)) v:=by
 subst he;obtain⟨i,zv,hi,hz',hs,h1,rfl⟩:=zeroD_some hz;have hsz':k.t.size=i.size:=by rw[hsz];simp[Program.cellsOf,hi]
 have hzl:zv.cells.toList.length=k.t.size:=by rw[hsz'];simpa using hs
 obtain⟨us',hfill',hr,ho⟩:=fill_rel hev (fun i=>some (i*k.t.size,k.t.size)) parts.toList _ cs _ (relDs_replicate (relDs_v zv.cells.toList) len) (by
  intro u hu;simp only[List.mem_flatten,List.mem_replicate] at hu;obtain⟨l,⟨_,rfl⟩,hu⟩:=hu;exact h1 u hu) hfill
 obtain⟨_,hxl,hlive,_⟩:=elems_rel (S':=fun _=>True) M (fun _ _=>trivial) rd hrd k.t len cs xs us' hxs hr (fun _ _ _ _ _ _=>trivial);obtain⟨E,K⟩:=build_els M hrd hk len hxs hb hr;have hpn:=innB_nodup M k len (nodupB_nodup hnd) hlive;have hplt:∀p,some p∈innB X k len cs→p.b<X.w.heap.size:=fun p hp=>by
  obtain⟨r,h2,h3⟩:=K p hp;obtain⟨l,h4,h5⟩:=Ctx.pl_some h3;exact M.lts (hlive r h2) h4 _ (by rw[←h5];exact l.b_in)
 have husl:us'.length=len*k.t.size:=by rw[E.1,hxl]
 have hw'o:∀q,q<X.w.heap.size→(X.w.alloc (.cells us'.toArray k.e)).heap[q]? =X.w.heap[q]? :=fun q hq=>heap_old X.w _ q hq;obtain⟨X',M',L',e1,e2,e3,e4,e5⟩:=mem_build M (killIds cs) hnd hlive hf hl hn (.nest k xs none) ⟨⟨X.w.heap.size,0,us'.toArray.size⟩,innB X k len cs⟩ (X.w.alloc (.cells us'.toArray k.e)) rfl rfl rfl (by simp) (fun q hq _=>hw'o q hq)
  (fun q hq=>by
   unfold Loc.bs at hq;rcases List.mem_cons.1 hq with h|h
   ·exact .inr (by simp at h;omega)
   ·obtain⟨o,ho,h2⟩:=List.mem_filterMap.1 h;cases o with
    |none=>cases h2
    |some p=>
     obtain⟨r,h3,h4⟩:=K p ho;obtain⟨l,h5,h6⟩:=Ctx.pl_some h4;exact .inl ⟨r,h3,l,h5,by have:=Option.some.inj h2;rw[←this,←h6];exact l.b_in⟩) trivial
  (fun Y hle hYw hYS=>by
   refine nestEls_row hk (l:=⟨⟨X.w.heap.size,0,us'.toArray.size⟩,innB X k len cs⟩) (nestEls_le hle (fun p hp=>by rw[hYw];exact hw'o _ (hplt p hp)) E) (cs:=us'.toArray) (by rw[hYw];exact heap_new X.w _) rfl ?_ ho (by simp) (fun j u hj=>by simpa using hj);unfold Loc.bs;rw[List.nodup_cons];refine⟨fun h=> ?_,hpn⟩;obtain⟨o,ho,h2⟩:=List.mem_filterMap.1 h;cases o with
   |none=>cases h2
   |some p=>have:=hplt p ho;have:=Option.some.inj h2;simp at this;omega)
 refine⟨.slice (some ⟨X.w.heap.size,0,none⟩) len len,X',?_,M',e3,L',?_⟩
 ·have hrange:((Array.range (len*i.size)).map (fun j=>zv.cells[j%zv.cells.size]!))=(List.replicate len zv.cells.toList).flatten.toArray:=by
   have:=range_mod zv.cells.toList k.t.size hzl h0 len;rw[←this,hsz'];apply Array.ext';simp
  have hsm:¬(2^24<len*i.size):=by rw[←hsz'];omega
  have hfl:Instr.fill (fun j=>some (j*i.size,i.size)) (List.replicate len zv.cells.toList).flatten.toArray (parts.toList.map fun p=>(p.1,va p.2))=some us'.toArray:=by rw[←hsz'];exact hfill'
  by_cases hl0:len*i.size=0
  ·have hlen0:len=0:=by
    rcases Nat.mul_eq_zero.1 hl0 with h|h
    ·exact h
    ·exact absurd (hsz'.trans h) h0
   subst hlen0;simp at hfl;simp[Instr.buildSlice,run_underlying hu,run_sizeOf' hi,hfl,newRow,Array.range_zero',e1]
  ·simp[Instr.buildSlice,run_underlying hu,run_sizeOf' hi,zeroValue,typeInfo,hi,hz',hl0,hsm,hrange,hfl,newRow,e1]
 ·simp only[RelD];rw[e5];exact⟨by rw[hxl];omega,_,len,rfl,Nat.le_refl _,by simp,by simp,by simp,.inr ⟨⟨X.w.heap.size,0,us'.toArray.size⟩,e4,by simp,by simp[husl]⟩⟩
theorem s_makeSlice_nest (M:Mem b X) {nid:Nat} (hf:slot X.H nid= .free) (hl:nid<X.H.length) (hn:b.n≤nid) (rd:Nat→Option Row) (hrd:∀id r,rd id=some r→hget X.H id=some r)
  {t e:TypeId} (hu:P.underlying t=some (.slice e)) {k:NK} (hk:k.ok=true) (he:e=k.e) {z:List D} (hz:zeroD P e=some z) (hsz:k.t.size=P.cellsOf e) (h0:k.t.size≠0) {y:k.t.El} (hy:k.t.ofCells rd z=some y) (hzp:z[k.p]? =some (.v (.slice none 0 0)))
  (kl kc:IntKind) (l c:Int) (h1:0≤l) (h2:l≤c) (h3:c≤9223372036854775807) (h4:c.toNat*P.bytesOf e≤281474976710656):
  ∃v X',(Instr.makeSlice t (.int kl l) (.int kc c)).run P X.w= .ok v X'.w∧Mem b X'∧X'.H=X.H.set nid (.live (.nest k (List.replicate c.toNat y) none))∧Le X X'∧RelD X' (.own nid 0 l.toNat (some c.toNat)) v:=by
 subst he;obtain⟨i,zv,hi,hz',hs,ho,rfl⟩:=zeroD_some hz;have hsz':k.t.size=i.size:=by rw[hsz];simp[Program.cellsOf,hi]
 have hzl:zv.cells.toList.length=k.t.size:=by rw[hsz'];simpa using hs
 have hb':(i.bytes:Int)*c≤281474976710656:=by
  have e1:P.bytesOf k.e=i.bytes:=by simp[Program.bytesOf,hi]
  rw[e1] at h4;have e2:((c.toNat*i.bytes:Nat):Int)=(i.bytes:Int)*c:=by
   rw[Int.natCast_mul,Int.toNat_of_nonneg (by omega),Int.mul_comm]
  omega
 have hr:=run_make (P:=P) X.w t k.e i zv hu hi hz' kl kc l c h1 h2 hb' h3;have hcells:madeCells zv.cells (c.toNat*i.size)=(List.replicate c.toNat zv.cells.toList).flatten.toArray:=by
  have:=range_mod zv.cells.toList k.t.size hzl h0 c.toNat;rw[←this,hsz',madeCells];apply Array.ext';simp
 rw[hcells] at hr;have hkl:killIds ((zv.cells.toList.map D.v).set k.p (.v (.slice none 0 0)))=[]:=by
  cases hkk:killIds ((zv.cells.toList.map D.v).set k.p (.v (.slice none 0 0))) with
  |nil=>rfl
  |cons a l=>
   exfalso;have:a∈killIds ((zv.cells.toList.map D.v).set k.p (.v (.slice none 0 0))):=by rw[hkk];simp
   obtain⟨_,_,_,hm⟩:=mem_killIds.1 this;rcases List.mem_or_eq_of_mem_set hm with hm|hm
   ·simp at hm
   ·cases hm
 have E1:=one_el M hrd hk hy (relDs_v zv.cells.toList) hzp rfl hkl;have E:∀n,NestEls X k (List.replicate n y) (List.replicate n zv.cells.toList).flatten (List.replicate n none):=by
  intro n;induction n with
  |zero=>exact⟨by simp,rfl,by simp⟩
  |succ n ih=>
   have:=nestEls_append (xs:=[y]) (us:=zv.cells.toList) (is:=[none]) ⟨by simpa using hzl,rfl,fun j x hx=>by
    cases j with
    |zero=>
     simp only[List.getElem?_cons_zero,sI] at hx;subst hx;have e1:((zv.cells.toList).drop (0*k.t.size)).take k.t.size=zv.cells.toList:=by rw[Nat.zero_mul,List.drop_zero,←hzl,List.take_length]
     rw[e1];exact E1
    |succ j=>simp at hx⟩ ih
   simpa [List.replicate_succ] using this
 have E:=E c.toNat;have hbs:∀q,q∈(⟨⟨X.w.heap.size,0,(List.replicate c.toNat zv.cells.toList).flatten.toArray.size⟩,List.replicate c.toNat none⟩:Loc).bs→q=X.w.heap.size:=by
  intro q hq;unfold Loc.bs at hq;rcases List.mem_cons.1 hq with h|h
  ·exact h
  ·obtain⟨o,ho,h2⟩:=List.mem_filterMap.1 h;rw[List.mem_replicate] at ho;rw[ho.2] at h2;cases h2
 have hfm:(List.replicate c.toNat (none:Option Pl)).filterMap (Option.map Pl.b)=[]:=by
  rw[List.filterMap_eq_nil_iff];intro o ho;rw[List.mem_replicate] at ho;rw[ho.2];rfl
 obtain⟨X',M',L',e1,e2,e3,e4,e5⟩:=mem_build M [] rfl (by simp) hf hl hn (.nest k (List.replicate c.toNat y) none) ⟨⟨X.w.heap.size,0,(List.replicate c.toNat zv.cells.toList).flatten.toArray.size⟩,List.replicate c.toNat none⟩
  (X.w.alloc (.cells (List.replicate c.toNat zv.cells.toList).flatten.toArray k.e)) rfl rfl rfl (by simp) (fun q hq _=>heap_old X.w _ q hq)
  (fun q hq=> .inr (by rw[hbs q hq];exact Nat.le_refl _)) trivial
  (fun Y hle hYw hYS=>by
   refine nestEls_row hk (l:=⟨⟨X.w.heap.size,0,(List.replicate c.toNat zv.cells.toList).flatten.toArray.size⟩,List.replicate c.toNat none⟩) (nestEls_le hle (fun p hp=>by simp at hp) E) (cs:=(List.replicate c.toNat zv.cells.toList).flatten.toArray) (by rw[hYw];exact heap_new X.w _) rfl ?_ ?_ (by simp) (fun j u hj=>by simpa using hj)
   ·unfold Loc.bs;rw[hfm];simp
   ·intro u hu;simp only[List.mem_flatten,List.mem_replicate] at hu;obtain⟨l,⟨_,rfl⟩,hu⟩:=hu;exact ho u hu)
 refine⟨_,X',by rw[e1];exact hr,M',e3,L',?_⟩;have hul:=E.1;simp only[List.length_replicate] at hul;simp only[RelD];rw[e5];refine⟨by simp;omega,_,c.toNat,rfl,by omega,by simp,by simp,by simp,.inr ⟨_,e4,by simp,?_⟩⟩;simp only[Nat.zero_add];rw[List.size_toArray,hul];exact Nat.le_refl _
end
theorem cell_st {X Y:Ctx} (hs:∀k,X.S k→Y.S k∧Y.w.heap[k]? =X.w.heap[k]?):∀(t:Ty) (x:t.El) (c:D) (v:Value),c∈t.cells x→RelD X c v→RelD Y c v
 | .int _,_,c,v,h,hr=>by simp only[Ty.cells,List.mem_singleton] at h;subst h;simpa only[RelD] using hr
 | .bool,_,c,v,h,hr=>by simp only[Ty.cells,List.mem_singleton] at h;subst h;simpa only[RelD] using hr
 | .str,_,c,v,h,hr=>by simp only[Ty.cells,List.mem_singleton] at h;subst h;simpa only[RelD] using hr
 | .sl t,xs,c,v,h,hr=>by
  simp only[Ty.cells,List.mem_singleton] at h;subst h;simp only[RelD] at hr⊢;obtain⟨A,c,us,e,h1,h2,h3,h4,h5,h6⟩:=hr;exact⟨A,c,us,e,h1,h2,h3,h4,Reps_mono (RelE_mono hs t) xs us h5,At_mono hs h6⟩
 | .prod a b,x,c,v,h,hr=>by
  simp only[Ty.cells,List.mem_append] at h;rcases h with h|h
  ·exact cell_st hs a x.1 c v h hr
  ·exact cell_st hs b x.2 c v h hr
 | .unit,_,c,v,h,_=>by simp[Ty.cells] at h
def HoleMap (X Y:Ctx):Option (Nat×D)→Option (Nat×D)→Prop
 |none,none=>True
 |some (i,d),some (i',d')=>i=i'∧∀v,RelD X d v→RelD Y d' v
 |_,_=>False
theorem relRow_nestG {X Y:Ctx} (hC:∀(t:Ty) (x:t.El) (c:D) (v:Value),c∈t.cells x→RelD X c v→RelD Y c v) (hR:∀(t:Ty) (xs:List t.El) (us:List Value),Reps (RelE X.S X.w t) xs us→Reps (RelE Y.S Y.w t) xs us) {k:NK} {xs:List k.t.El} {h h':Option (Nat×D)} {p:Option Loc} (hw:∀l,p=some l→∀q∈l.bs,Y.w.heap[q]? =X.w.heap[q]?) (hh:HoleMap X Y h h')
  (hr:RelRow X (.nest k xs h) p):RelRow Y (.nest k xs h') p:=by
 cases p with
 |none=>exact hr
 |some l=>
  obtain⟨cs,ty,h1,h2,e1,e2,e3,e4,us,e5,e6,e7,e8,hel⟩:=hr;refine⟨cs,ty,(hw l rfl l.b l.b_in).trans h1,h2,e1,e2,e3,e4,us,e5,e6,e7,e8,fun j x hx=> ?_⟩;have E:=hel j x hx;refine⟨fun q c hq hc=> ?_,?_⟩
  ·obtain⟨v,h3,h4⟩:=E.flat q c hq hc;exact⟨v,h3,hC k.t x c v (List.mem_of_getElem? hc) h4⟩
  ·obtain⟨v,h3,h4⟩:=E.inn;refine⟨v,h3,?_⟩;cases h with
   |none=>
    cases h' with
    |some q=>cases hh
    |none=>
     simp only[holeAt] at h4⊢;obtain⟨A,c,f1,f2,f3,f4,f5⟩:=h4;refine⟨A,c,f1,f2,f3,f4,?_⟩;cases ho:l.inn.getD j none with
     |none=>rw[ho] at f5;exact f5
     |some pl=>
      rw[ho] at f5;obtain⟨cs2,g1,g2,us2,g3,g4⟩:=f5;exact⟨cs2,(hw l rfl pl.b (Loc.bs_mem.2 (.inr ⟨j,pl,ho,rfl⟩))).trans g1,g2,us2,hR k.u _ us2 g3,g4⟩
   |some q=>
    obtain⟨i,d⟩:=q;cases h' with
    |none=>cases hh
    |some q'=>
     obtain⟨i',d'⟩:=q';obtain⟨rfl,hd⟩:=hh;simp only[holeAt] at h4⊢;by_cases hij:i=j
     ·rw[if_pos hij] at h4⊢;exact⟨h4.1,hd v h4.2⟩
     ·rw[if_neg hij] at h4⊢;obtain⟨A,c,f1,f2,f3,f4,f5⟩:=h4;refine⟨A,c,f1,f2,f3,f4,?_⟩;cases ho:l.inn.getD j none with
      |none=>rw[ho] at f5;exact f5
      |some pl=>
       rw[ho] at f5;obtain⟨cs2,g1,g2,us2,g3,g4⟩:=f5;exact⟨cs2,(hw l rfl pl.b (Loc.bs_mem.2 (.inr ⟨j,pl,ho,rfl⟩))).trans g1,g2,us2,hR k.u _ us2 g3,g4⟩
theorem relRow_nest {X Y:Ctx} (hs:∀k,X.S k→Y.S k∧Y.w.heap[k]? =X.w.heap[k]?) {k:NK} {xs:List k.t.El} {h h':Option (Nat×D)} {p:Option Loc} (hw:∀l,p=some l→∀q∈l.bs,Y.w.heap[q]? =X.w.heap[q]?) (hh:HoleMap X Y h h')
  (hr:RelRow X (.nest k xs h) p):RelRow Y (.nest k xs h') p:=relRow_nestG (cell_st hs) (fun t xs us=>Reps_mono (RelE_mono hs t) xs us) hw hh hr
end
end Go.Proofs.YtnakmganodkliaaDoorAm
