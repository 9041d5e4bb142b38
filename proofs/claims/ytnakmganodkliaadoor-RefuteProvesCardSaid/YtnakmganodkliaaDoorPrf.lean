/- What refute.Prove may tell, for every problem (claim RefuteProves): the logic, the contracts and the plain laws (part 6) -/
import Derived.SizedLaws
import Derived.Test.YtnakmganodkliaaDoorPre
set_option linter.unusedVariables false
set_option linter.unusedSimpArgs false
namespace Go.Proofs.YtnakmganodkliaaDoorAm
open Go Go.ChangeShapes Go.RowKit Go.ChangeAt
def Ty.bytes:Ty→Nat
 | .int k=>k.bits/8
 | .bool=>1
 | .str=>16
 | .sl _=>24
 | .prod a b=>a.bytes+b.bytes
 | .unit=>0
def wfS:(t:Ty)→t.El→Prop
 | .int k,n=>k.min≤n∧n≤k.max
 | .bool,_=>True
 | .str,s=>s.size≤9223372036854775807
 | .sl t,xs=>xs.length*t.bytes≤reachBytes∧∀x∈xs,wfS t x
 | .prod a b,x=>wfS a x.1∧wfS b x.2
 | .unit,_=>True
def tyS (P:Program):Nat→TypeId→Option Ty
 |0,_=>none
 |n+1,t=>
  match P.underlying t with
  |some (.int k)=>some (.int k)
  |some .bool=>some .bool
  |some .string=>some .str
  |some (.slice e)=>match tyS P n e with
   |some ty=>if ty.size=P.cellsOf e then if ty.bytes≤P.bytesOf e then some (.sl ty) else none else none
   |none=>none
  |some (.struct fs)=>match go n 0 (fs.toList.map fun f=>(f.offset,f.type)) with
   |some ty=>if ty.size=P.cellsOf t then some ty else none
   |none=>none
  |some (.array len e)=>if len≤16 then match go n 0 ((List.range len).map fun i=>(i*P.cellsOf e,e)) with
    |some ty=>if ty.size=P.cellsOf t then some ty else none
    |none=>none
   else none
  |_=>none
where
 go:Nat→Nat→List (Nat×TypeId)→Option Ty
  |_,_,[]=>some .unit
  |0,_,_=>none
  |n+1,off,[(o,t)]=>if o=off then match tyS P n t with
    |some a=>if a.size=P.cellsOf t then some a else none
    |none=>none
   else none
  |n+1,off,(o,t)::ts=>if o=off then match tyS P n t,go n (off+P.cellsOf t) ts with
    |some a,some b=>if a.size=P.cellsOf t then some (.prod a b) else none
    |_,_=>none
   else none
section
variable {H:Type} {enc:TypeId×Value→H} {P:Program} {w:World} {sp:Nat→Bool} {held:Bool}
def RdsS (enc:TypeId×Value→H) (P:Program) (w:World) (sp:Nat→Bool) (held:Bool) (t:TypeId) (cs:List Value):Prop:=∃fuel x,DataW.trod enc P w 0 sp held fuel t cs=some x∧∀m∈x.1.weights P t,m≤reachBytes
theorem weightsAll_mem:∀{e:TypeId} {ds:List (DataW H)} {j:Nat} {d:DataW H},ds[j]? =some d→∀n∈d.weights P e,n∈DataW.weightsAll P e ds
 |e,d0::ds,0,d,hd,n,hn=>by
  simp only[List.getElem?_cons_zero,sI] at hd;subst hd;simp only[DataW.weightsAll,List.mem_append];exact .inl hn
 |e,d0::ds,j+1,d,hd,n,hn=>by
  simp only[List.getElem?_cons_succ] at hd;simp only[DataW.weightsAll,List.mem_append];exact .inr (weightsAll_mem hd n hn)
 |_,[],_,_,hd,_,_=>by simp at hd
theorem weightsEach_more:∀(ts ts':List TypeId) (ds:List (DataW H)),ds.length=ts.length→DataW.weightsEach P (ts++ts') ds=DataW.weightsEach P ts ds
 | [],ts',[],_=>by cases ts'<;>simp[DataW.weightsEach]
 | [],_,_::_,h=>by simp at h
 |t::ts,ts',[],h=>by simp at h
 |t::ts,ts',d::ds,h=>by
  simp only[List.cons_append,DataW.weightsEach];rw[weightsEach_more ts ts' ds (by simpa using h)]
theorem reps_rangeS {ty:Ty} {S:Nat→Prop} {A:Addr} {e:TypeId} (hsz:ty.size=P.cellsOf e):∀(len i0:Nat),(∀i,i0≤i→i<i0+len→∃cs x,RelE S w ty x cs∧wfS ty x∧cs.length=P.cellsOf e∧∀j,j<P.cellsOf e→w.cell? ((A.add (i*P.cellsOf e)).add j)=cs[j]?)→
  ∃xs us,xs.length=len∧Reps (RelE S w ty) xs us∧(∀x∈xs,wfS ty x)∧us.length=len*P.cellsOf e∧∀j,j<len*P.cellsOf e→w.cell? (A.add (i0*P.cellsOf e+j))=us[j]?
 |0,i0,_=>⟨[],[],rfl,rfl,by simp,by simp,by simp⟩
 |len+1,i0,h=>by
  obtain⟨cs,x,h1,h2,h3,h4⟩:=h i0 (Nat.le_refl _) (by omega);obtain⟨xs,us,g1,g2,g3,g4,g5⟩:=reps_rangeS hsz len (i0+1) (fun i hi1 hi2=>h i (by omega) (by omega));refine⟨x::xs,cs++us,by simp[g1],⟨cs,us,rfl,h1,g2⟩,?_,?_,?_⟩
  ·intro y hy;rcases List.mem_cons.1 hy with h|h
   ·rw[h];exact h2
   ·exact g3 y h
  ·rw[List.length_append,h3,g4,Nat.add_mul];omega
  ·intro j hj;rcases Nat.lt_or_ge j (P.cellsOf e) with hj1|hj1
   ·rw[List.getElem?_append_left (by omega),←h4 j hj1,add_add']
   ·rw[List.getElem?_append_right (by omega),h3,←g5 (j-P.cellsOf e) (by rw[Nat.add_mul] at hj;omega)];congr 2
    rw[Nat.add_mul];omega
mutual
theorem trod_relS:∀(n:Nat) (t:TypeId) {ty:Ty},tyS P n t=some ty→∀{cs:List Value},RdsS enc P w sp held t cs→∃x,RelE (oldS w) w ty x cs∧wfS ty x
 |0,t,ty,h,cs,_=>by simp[tyS] at h
 |n+1,t,ty,h,cs,hr=>by
  obtain⟨fuel,x,hx,hz⟩:=hr;simp only[tyS] at h;split at h
  ·rename_i k hu;simp only[sI] at h;subst h;obtain⟨m,rfl,_,hw⟩:=DataW.trod_int hu hx;simp only[Lit.wf,Bool.and_eq_true,decide_eq_true_eq] at hw;exact⟨m,rfl,hw⟩
  ·rename_i hu;simp only[sI] at h;subst h;obtain⟨m,rfl,_⟩:=DataW.trod_bool hu hx;exact⟨m,rfl,trivial⟩
  ·rename_i hu;simp only[sI] at h;subst h;obtain⟨m,rfl,_,hw⟩:=DataW.trod_string hu hx;exact⟨m,rfl,hw⟩
  ·rename_i e hu;split at h
   ·rename_i ty' he;split at h
    ·rename_i hsz;split at h
     rotate_left
     ·cases h
     rename_i hby;simp only[sI] at h;subst h;rcases DataW.trod_slice hu hx with⟨rfl,_⟩|⟨a,len,cap,elems,rest,m,_,rfl,hxe,_,h2,h3,h4,h5,_⟩
     ·exact⟨([]:List ty'.El),⟨none,0,[],rfl,Nat.le_refl _,fun _=>rfl,rfl,fun j u hj=>by simp at hj⟩,by simp[wfS]⟩
     ·subst hxe;simp only[DataW.weights,hu,List.mem_cons,List.mem_append,List.length_map] at hz;have hz0:=hz _ (.inl rfl);obtain⟨xs,us,g1,g2,g3,g4,g5⟩:=reps_rangeS (P:=P) (w:=w) (ty:=ty') (S:=oldS w) (A:=a) hsz len 0 (fun i _ hi=>by
       have h6:=h5 i (by omega);rw[gQ (by omega)] at h6;obtain⟨cs,k1,k2,k3⟩:=trod_bind h6;obtain⟨x,k4,k5⟩:=trod_relS n e he ⟨m,_,k3,fun q hq=>hz q (.inr (.inl (weightsAll_mem (j:=i) (by rw[List.getElem?_map,gQ (by omega)];rfl) q hq)))⟩;exact⟨cs,x,k4,k5,k1,k2⟩)
      refine⟨xs,⟨some a,cap,us,by rw[g1],by omega,by simp,g2,?_⟩,?_,g3⟩
      ·intro j u hj;have hjl:=(List.getElem?_eq_some_iff.1 hj).1;have:=g5 j (by omega);rw[Nat.zero_mul,Nat.zero_add,hj] at this;exact⟨a,rfl,by have h7:=cell_lt this;rwa [add_block] at h7,this⟩
      ·rw[g1];exact Nat.le_trans (Nat.mul_le_mul (show len≤elems.length+rest.length by omega) hby) hz0
    ·cases h
   ·cases h
  ·rename_i fs hu;split at h
   ·rename_i ty' he;split at h
    ·rename_i hsz;simp only[sI] at h;subst h;obtain⟨xs,m,_,hxe,h1,h2,h3⟩:=DataW.trod_struct hu hx;subst hxe;simp only[DataW.weights,hu] at hz;have:=go_relS n 0 _ he (cs:=cs) (fun p hp=>by
      obtain⟨f,hf,rfl⟩:=List.mem_map.1 hp;obtain⟨i,hi⟩:=List.getElem?_of_mem hf;rw[Array.getElem?_toList] at hi;have h4:=h3 i f hi;have hlt:=(Array.getElem?_eq_some_iff.1 hi).1;rw[gQ (by omega)] at h4;exact⟨m,_,h4,fun q hq=>hz q (DataW.weights_mem_each (j:=i) (by rw[List.getElem?_map,Array.getElem?_toList,hi];rfl) (by rw[List.getElem?_map,gQ (by omega)];rfl) q hq)⟩) (by omega)
     obtain⟨x,g1,g2⟩:=this;rw[List.drop_zero,List.take_of_length_le (by omega)] at g1;exact⟨x,g1,g2⟩
    ·cases h
   ·cases h
  ·rename_i len e hu;split at h
   ·split at h
    ·rename_i ty' he;split at h
     ·rename_i hsz;simp only[sI] at h;subst h;obtain⟨xs,m,_,hxe,h1,h2,h3⟩:=DataW.trod_array hu hx;subst hxe;simp only[DataW.weights,hu] at hz;have:=go_relS n 0 _ he (cs:=cs) (fun p hp=>by
       obtain⟨i,hi,rfl⟩:=List.mem_map.1 hp;have hlt:=List.mem_range.1 hi;have h4:=h3 i hlt;rw[gQ (by omega)] at h4;exact⟨m,_,h4,fun q hq=>hz q (weightsAll_mem (j:=i) (by rw[List.getElem?_map,gQ (by omega)];rfl) q hq)⟩) (by omega)
      obtain⟨x,g1,g2⟩:=this;rw[List.drop_zero,List.take_of_length_le (by omega)] at g1;exact⟨x,g1,g2⟩
     ·cases h
    ·cases h
   ·cases h
  ·cases h
theorem go_relS:∀(n:Nat) (off:Nat) (parts:List (Nat×TypeId)) {ty:Ty},tyS.go P n off parts=some ty→∀{cs:List Value},(∀p∈parts,RdsS enc P w sp held p.2 ((cs.drop p.1).take (P.cellsOf p.2)))→
  off+ty.size≤cs.length→∃x,RelE (oldS w) w ty x ((cs.drop off).take ty.size)∧wfS ty x
 |n,off,[],ty,h,cs,hp,hl=>by
  have h':ty= .unit:=by cases n<;>simpa [tyS.go] using h.symm
  subst h';exact⟨(),by simp[RelE,Ty.size],trivial⟩
 |0,off,p::ps,ty,h,cs,hp,hl=>by simp[tyS.go] at h
 |n+1,off,[(o,t)],ty,h,cs,hp,hl=>by
  simp only[tyS.go] at h;split at h
  ·rename_i ho;subst ho;split at h
   ·rename_i a ha;split at h
    ·rename_i hs;simp only[sI] at h;subst h;have:=hp (o,t) List.mem_cons_self;rw[hs];exact trod_relS n t ha this
    ·cases h
   ·cases h
  ·cases h
 |n+1,off,(o,t)::p2::ps,ty,h,cs,hp,hl=>by
  simp only[tyS.go] at h;split at h
  ·rename_i ho;subst ho;split at h
   ·rename_i a c ha hc;split at h
    ·rename_i hs;simp only[sI] at h;subst h;simp only[Ty.size] at hl⊢;obtain⟨x,g1,g2⟩:=trod_relS n t ha (hp (o,t) List.mem_cons_self);obtain⟨y,g3,g4⟩:=go_relS n (o+P.cellsOf t) (p2::ps) hc (fun q hq=>hp q (List.mem_cons_of_mem _ hq)) (by omega);refine⟨(x,y),⟨_,_,?_,g1,g3⟩,g2,g4⟩;rw[←hs,List.take_add,←List.drop_drop]
    ·cases h
   ·cases h
  ·cases h
end
end
def wfsS:(tys:List Ty)→Vals tys→Prop
 | [],_=>True
 |t::ts,x=>wfS t x.1∧wfsS ts x.2
def tysS (P:Program) (n:Nat):List TypeId→Option (List Ty)
 | []=>some []
 |t::ts=>match tyS P n t,tysS P n ts with
  |some a,some b=>some (a::b)
  |_,_=>none
section
variable {H:Type} {enc:TypeId×Value→H} {P:Program} {w:World} {sp:Nat→Bool} {held:Bool}
theorem tyS_agg {n:Nat} {t:TypeId} {ty:Ty} (h:tyS P n t=some ty) (ha:aggB P t=false) {r:Reach} {base:Nat} {v:Value} (hv:Value.okWide P w r base t v):v.cells= #[v]:=by
 cases n with
 |zero=>simp[tyS] at h
 |succ n=>
  simp only[tyS] at h;unfold Value.okWide at hv;unfold aggB at ha;split at h
  ·rename_i k hu;rw[hu] at hv;simp only at hv;cases v<;>first|rfl|(simp[Cell.okWide,Cell.ok,hu] at hv)
  ·rename_i hu;rw[hu] at hv;simp only at hv;cases v<;>first|rfl|(simp[Cell.okWide,Cell.ok,hu] at hv)
  ·rename_i hu;rw[hu] at hv;simp only at hv;cases v<;>first|rfl|(simp[Cell.okWide,Cell.ok,hu] at hv)
  ·rename_i e hu;rw[hu] at hv;simp only at hv;cases v<;>first|rfl|(simp[Cell.okWide,Cell.ok,hu] at hv)
  ·rename_i fs hu;rw[hu] at ha;cases ha
  ·rename_i len e hu;rw[hu] at ha;cases ha
  ·cases h
theorem args_relS {r:Reach} {base:Nat} {X:Ctx} (hS:X.S=oldS w) (hw:X.w=w):∀(ts:List TypeId) (tys:List Ty) {vs:List Value} {ds:List (DataW H)} {p:List MemPlace},tysS P 12 ts=some tys→DataW.TrodAll enc P w 0 sp held ts vs ds p→(∀m∈DataW.weightsEach P ts ds,m≤reachBytes)→
  (∀(j:Nat) t v,ts[j]? =some t→vs[j]? =some v→Value.okWide P w r base t v)→∃xs:Vals tys,wfsS tys xs∧∀ds',argsD P ts tys xs=some ds'→RelDs X ds' vs
 | [],tys,vs,ds,p,ht,hA,_,_=>by
  simp only[tysS,sI] at ht;subst ht;obtain⟨rfl,_,_⟩:=ChangeShapes.trodAll_nil hA;refine⟨(),trivial,fun ds' h=> ?_⟩;simp only[argsD,sI] at h;subst h;simp only[RelDs]
 |t::ts,tys,vs,ds,p,ht,hA,hzz,hok=>by
  simp only[tysS] at ht;split at ht
  ·rename_i a b ha hb;simp only[sI] at ht;subst ht;obtain⟨v,vs',d,ds',p1,q1,rfl,rfl,rfl,h0,r0⟩:=ChangeShapes.trodAll_cons hA;obtain⟨xs,g1,g2⟩:=args_relS (X:=X) hS hw ts b hb r0 (fun m hm=>hzz m (by simp only[DataW.weightsEach,List.mem_append];exact .inr hm)) (fun j t' v' h1 h2=>hok (j+1) t' v' (by simpa using h1) (by simpa using h2));obtain⟨fuel,hx⟩:=h0;obtain⟨x,k1,k2⟩:=trod_relS (w:=w) 12 t ha ⟨fuel,_,hx,fun m hm=>hzz m (by simp only[DataW.weightsEach,List.mem_append];exact .inl hm)⟩;refine⟨(x,xs),⟨k2,g1⟩,fun ds'' h=> ?_⟩;simp only[argsD] at h;split at h
   ·rename_i d1 ds1 h1 h2;simp only[sI] at h;subst h;simp only[RelDs];refine⟨v,vs',rfl,?_,g2 ds1 h2⟩;rw[←hS,←hw] at k1;have hR:=relE_cells X a x _ k1;have hov:=hok 0 t v rfl rfl;unfold valD at h1;split at h1
    ·rename_i hagg;simp only[sI] at h1;subst h1;obtain⟨cs,rfl⟩:=okWide_agg hagg hov;simp only[RelD];exact⟨cs.toList,by simp,by simpa [Value.cells] using hR⟩
    ·rename_i hagg;have hc:=tyS_agg ha (by simpa using hagg) hov;split at h1
     ·rename_i d2 hd;simp only[sI] at h1;subst h1;rw[hd,hc] at hR;obtain⟨u,hu,hu2⟩:=relDs_one.1 hR;simp only[List.cons.injEq,and_true] at hu;rw[hu];exact hu2
     ·cases h1
   ·cases h
  ·cases ht
theorem law_stepS {f:FuncId} {fn:Func} {tys:List Ty} {tb:TypeId} {spec:ChangeSpec} (hK:Kids P (· <P.types.size)) (hz:∀t e,t<P.types.size→P.underlying t=some (.slice e)→0<P.cellsOf e)
  (hts:∀t∈fn.params.toList,t<P.types.size) (hty:tysS P 12 fn.params.toList=some tys) (hres:fn.resultTypes= #[tb]) (hb:P.underlying tb=some .bool)
  (hcon:∀xs:Vals tys,wfsS tys xs→∃ds,argsD P fn.params.toList tys xs=some ds∧Con P f [] ds (.v (.bool true)) [] [])
  {W:World} {base:Nat} {args:Array Value} {ds gs:List (DataW H)} {before:List MemPlace} (hval:∀(j:Nat) t v,fn.params[j]? =some t→args[j]? =some v→Value.okWide P W .any base t v)
  (hvars:spec.vars=[]) (hspec:∀l:List (DataW H),l.length=fn.params.size→spec.fn H l={results:=[.lit (.bool true)],args:=l})
  (hz2:(DataW.weightsEach P (fn.params.toList++spec.plain.varTypes P) (ds++gs)).all (· ≤reachBytes)=true) (hW:DataW.Whole enc P fn.params.toList spec.vars false W args.toList ds gs before)
  (hglob:GlobOk (oldS W) W:=by intro p hp;simp[gTab] at hp):
  Calls P f args W fun e W'=>∃v,e= .returned v∧spec.post enc P fn false true false false W args v W':=by
 have hW':=hW;obtain⟨p,q,hA,hV,hpq,hfz,hnd⟩:=hW;rw[hvars] at hV;obtain⟨hgs,hq⟩:gs=[]∧q=[]:=by
  cases gs with
  |nil=>exact⟨rfl,hV⟩
  |cons g gs=>exact hV.elim
 subst hgs;subst hq;rw[List.append_nil] at hpq;subst hpq;have hz3:∀m∈DataW.weightsEach P fn.params.toList ds,m≤reachBytes:=by
  intro m hm;rw[List.append_nil,weightsEach_more _ _ _ (by rw[trodAll_len hA])] at hz2;simpa using List.all_eq_true.1 hz2 m hm
 obtain⟨xs,hwf,hrel⟩:=args_relS (X:=⟨fun _=>none,[],oldS W,W⟩) rfl rfl fn.params.toList tys hty hA hz3 (fun j t v h1 h2=>hval j t v (by rwa [Array.getElem?_toList] at h1) (by rwa [Array.getElem?_toList] at h2));obtain⟨dd,hdd,hcon'⟩:=hcon xs hwf;have M:Mem ⟨W,fun _=>none,oldS W,0⟩ ⟨fun _=>none,[],oldS W,W⟩:=by
  refine⟨rfl,rfl,rfl,Nat.le_refl _,?_,?_,?_,fun _ h=>h,fun _ _ _=>rfl,?_,fun _ _ _=>rfl,fun _ h=>h,fun _ h=> .inl h,hglob,fun id r p h=>by cases h⟩
  ·intro i j p q hi;exact absurd rfl hi
  ·intro id r h;cases h
  ·intro id p h;exact absurd rfl h
  ·intro id p h;exact absurd rfl h
 have hcalls:=hcon'.run W (fun _=>none) (oldS W) args.toList M (hrel dd hdd);rw[Array.toArray_toList] at hcalls;refine hcalls.mono ?_;rintro e W' ⟨v,ρ',S',rfl,M',hv⟩
 have hv':v= .bool true:=by simpa only[RelD] using hv
 subst hv';have hold:∀k,k<W.heap.size→W'.heap[k]? =W.heap[k]? :=fun k hk=>M'.keep k hk (fun⟨id,l,h,_⟩=>by simp at h);have hlen:=trodAll_len hA;have hs:=hspec (ds++[]) (by simpa using hlen);refine⟨_,rfl,ds,[],before,[],before,[],hW',?_,?_,?_,keptBut_old M'.os M'.output hold _,fun h=>by cases h⟩
 ·rw[hs,hres];exact ChangeShapes.trodAll_mk1 (RowKit.shut_bool hb true)
 ·rw[hs,List.append_nil];exact trodAll_carry (DataW.TrodAll.respare hK hz hts hA (fun x hx=>by simpa using hW'.lt x hx)) (fun x hx=>sameAt_old hold (hW'.lt x hx))
 ·rw[hvars];rw[hs];exact rfl
end
end Go.Proofs.YtnakmganodkliaaDoorAm
