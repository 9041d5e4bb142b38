/- What refute.Prove may tell, for every problem (claim RefuteProves): the logic, the contracts and the plain laws (part 5) -/
import Derived.ProofKit
import Derived.OpenShut
import Derived.ReadAgain
import Derived.Test.YtnakmganodkliaaDoorPrd
set_option linter.unusedVariables false
set_option linter.unusedSimpArgs false
namespace Go.Proofs.YtnakmganodkliaaDoorAm
open Go
def wfE:(t:Ty)→t.El→Prop
 | .int k,n=>k.min≤n∧n≤k.max
 | .bool,_=>True
 | .str,s=>s.size≤9223372036854775807
 | .sl t,xs=>xs.length≤9223372036854775807∧∀x∈xs,wfE t x
 | .prod a b,x=>wfE a x.1∧wfE b x.2
 | .unit,_=>True
def tyR (P:Program):Nat→TypeId→Option Ty
 |0,_=>none
 |n+1,t=>
  match P.underlying t with
  |some (.int k)=>some (.int k)
  |some .bool=>some .bool
  |some .string=>some .str
  |some (.slice e)=>match tyR P n e with
   |some ty=>if ty.size=P.cellsOf e then some (.sl ty) else none
   |none=>none
  |some (.struct fs)=>match go n 0 (fs.toList.map fun f=>(f.offset,f.type)) with
   |some ty=>if ty.size=P.cellsOf t then some ty else none
   |none=>none
  |some (.array len e)=>if len≤16 then match go n 0 ((List.range len).map fun i=>(i*P.cellsOf e,e)) with
    |some ty=>if ty.size=P.cellsOf t then some ty else none
    |none=>none
   else none
  |_=>none
where
 go:Nat→Nat→List (Nat×TypeId)→Option Ty
  |_,_,[]=>some .unit
  |0,_,_=>none
  |n+1,off,[(o,t)]=>if o=off then match tyR P n t with
    |some a=>if a.size=P.cellsOf t then some a else none
    |none=>none
   else none
  |n+1,off,(o,t)::ts=>if o=off then match tyR P n t,go n (off+P.cellsOf t) ts with
    |some a,some b=>if a.size=P.cellsOf t then some (.prod a b) else none
    |_,_=>none
   else none
section
variable {H:Type} {enc:TypeId×Value→H} {P:Program} {w:World} {sp:Nat→Bool} {held:Bool}
def oldS (w:World) (k:Nat):Prop:=k<w.heap.size
def Rds (enc:TypeId×Value→H) (P:Program) (w:World) (sp:Nat→Bool) (held:Bool) (t:TypeId) (cs:List Value):Prop:=∃fuel x,DataW.trod enc P w 0 sp held fuel t cs=some x
theorem reps_range {ty:Ty} {S:Nat→Prop} {A:Addr} {e:TypeId} (hsz:ty.size=P.cellsOf e):∀(len i0:Nat),(∀i,i0≤i→i<i0+len→∃cs x,RelE S w ty x cs∧wfE ty x∧cs.length=P.cellsOf e∧∀j,j<P.cellsOf e→w.cell? ((A.add (i*P.cellsOf e)).add j)=cs[j]?)→
  ∃xs us,xs.length=len∧Reps (RelE S w ty) xs us∧(∀x∈xs,wfE ty x)∧us.length=len*P.cellsOf e∧∀j,j<len*P.cellsOf e→w.cell? (A.add (i0*P.cellsOf e+j))=us[j]?
 |0,i0,_=>⟨[],[],rfl,rfl,by simp,by simp,by simp⟩
 |len+1,i0,h=>by
  obtain⟨cs,x,h1,h2,h3,h4⟩:=h i0 (Nat.le_refl _) (by omega);obtain⟨xs,us,g1,g2,g3,g4,g5⟩:=reps_range hsz len (i0+1) (fun i hi1 hi2=>h i (by omega) (by omega));refine⟨x::xs,cs++us,by simp[g1],⟨cs,us,rfl,h1,g2⟩,?_,?_,?_⟩
  ·intro y hy;rcases List.mem_cons.1 hy with h|h
   ·rw[h];exact h2
   ·exact g3 y h
  ·rw[List.length_append,h3,g4,Nat.add_mul];omega
  ·intro j hj;rcases Nat.lt_or_ge j (P.cellsOf e) with hj1|hj1
   ·rw[List.getElem?_append_left (by omega),←h4 j hj1,add_add']
   ·rw[List.getElem?_append_right (by omega),h3,←g5 (j-P.cellsOf e) (by rw[Nat.add_mul] at hj;omega)];congr 2
    rw[Nat.add_mul];omega
theorem trod_bind {e:TypeId} {a:Addr} {n fuel:Nat} {x:DataW H×List MemPlace} (h:((w.cells? 0 a n).bind (DataW.trod enc P w 0 sp held fuel e))=some x):
  ∃cs,cs.length=n∧(∀i,i<n→w.cell? (a.add i)=cs[i]?)∧DataW.trod enc P w 0 sp held fuel e cs=some x:=by
 cases hc:w.cells? 0 a n with
 |none=>simp[hc] at h
 |some cs=>
  obtain⟨_,h1,h2⟩:=World.cells?_some hc;exact⟨cs,h1,h2,by simpa [hc] using h⟩
theorem cell_lt {a:Addr} {v:Value} (h:w.cell? a=some v):a.block<w.heap.size:=by
 unfold World.cell? at h;cases ho:w.heap[a.block]? with
 |none=>simp[ho] at h
 |some o=>exact heap_lt ho
mutual
theorem trod_rel:∀(n:Nat) (t:TypeId) {ty:Ty},tyR P n t=some ty→∀{cs:List Value},Rds enc P w sp held t cs→∃x,RelE (oldS w) w ty x cs∧wfE ty x
 |0,t,ty,h,cs,_=>by simp[tyR] at h
 |n+1,t,ty,h,cs,hr=>by
  obtain⟨fuel,x,hx⟩:=hr;simp only[tyR] at h;split at h
  ·rename_i k hu;simp only[sI] at h;subst h;obtain⟨m,rfl,_,hw⟩:=DataW.trod_int hu hx;simp only[Lit.wf,Bool.and_eq_true,decide_eq_true_eq] at hw;exact⟨m,rfl,hw⟩
  ·rename_i hu;simp only[sI] at h;subst h;obtain⟨m,rfl,_⟩:=DataW.trod_bool hu hx;exact⟨m,rfl,trivial⟩
  ·rename_i hu;simp only[sI] at h;subst h;obtain⟨m,rfl,_,hw⟩:=DataW.trod_string hu hx;exact⟨m,rfl,hw⟩
  ·rename_i e hu;split at h
   ·rename_i ty' he;split at h
    ·rename_i hsz;simp only[sI] at h;subst h;rcases DataW.trod_slice hu hx with⟨rfl,_⟩|⟨a,len,cap,elems,rest,m,_,rfl,_,_,h2,h3,h4,h5,_⟩
     ·exact⟨([]:List ty'.El),⟨none,0,[],rfl,Nat.le_refl _,fun _=>rfl,rfl,fun j u hj=>by simp at hj⟩,by simp[wfE]⟩
     ·obtain⟨xs,us,g1,g2,g3,g4,g5⟩:=reps_range (P:=P) (w:=w) (ty:=ty') (S:=oldS w) (A:=a) hsz len 0 (fun i _ hi=>by
       have h6:=h5 i (by omega);rw[gQ (by omega)] at h6;obtain⟨cs,k1,k2,k3⟩:=trod_bind h6;obtain⟨x,k4,k5⟩:=trod_rel n e he ⟨m,_,k3⟩;exact⟨cs,x,k4,k5,k1,k2⟩)
      refine⟨xs,⟨some a,cap,us,by rw[g1],by omega,by simp,g2,?_⟩,?_,g3⟩
      ·intro j u hj;have hjl:=(List.getElem?_eq_some_iff.1 hj).1;have:=g5 j (by omega);rw[Nat.zero_mul,Nat.zero_add,hj] at this;exact⟨a,rfl,by have h7:=cell_lt this;rwa [add_block] at h7,this⟩
      ·rw[g1];exact Nat.le_trans h2 h3
    ·cases h
   ·cases h
  ·rename_i fs hu;split at h
   ·rename_i ty' he;split at h
    ·rename_i hsz;simp only[sI] at h;subst h;obtain⟨xs,m,_,_,h1,h2,h3⟩:=DataW.trod_struct hu hx;have:=go_rel n 0 _ he (cs:=cs) (fun p hp=>by
      obtain⟨f,hf,rfl⟩:=List.mem_map.1 hp;obtain⟨i,hi⟩:=List.getElem?_of_mem hf;rw[Array.getElem?_toList] at hi;have h4:=h3 i f hi;have hlt:=(Array.getElem?_eq_some_iff.1 hi).1;rw[gQ (by omega)] at h4;exact⟨m,_,h4⟩) (by omega)
     obtain⟨x,g1,g2⟩:=this;rw[List.drop_zero,List.take_of_length_le (by omega)] at g1;exact⟨x,g1,g2⟩
    ·cases h
   ·cases h
  ·rename_i len e hu;split at h
   ·split at h
    ·rename_i ty' he;split at h
     ·rename_i hsz;simp only[sI] at h;subst h;obtain⟨xs,m,_,_,h1,h2,h3⟩:=DataW.trod_array hu hx;have:=go_rel n 0 _ he (cs:=cs) (fun p hp=>by
       obtain⟨i,hi,rfl⟩:=List.mem_map.1 hp;have hlt:=List.mem_range.1 hi;have h4:=h3 i hlt;rw[gQ (by omega)] at h4;exact⟨m,_,h4⟩) (by omega)
      obtain⟨x,g1,g2⟩:=this;rw[List.drop_zero,List.take_of_length_le (by omega)] at g1;exact⟨x,g1,g2⟩
     ·cases h
    ·cases h
   ·cases h
  ·cases h
theorem go_rel:∀(n:Nat) (off:Nat) (parts:List (Nat×TypeId)) {ty:Ty},tyR.go P n off parts=some ty→∀{cs:List Value},(∀p∈parts,Rds enc P w sp held p.2 ((cs.drop p.1).take (P.cellsOf p.2)))→
  off+ty.size≤cs.length→∃x,RelE (oldS w) w ty x ((cs.drop off).take ty.size)∧wfE ty x
 |n,off,[],ty,h,cs,hp,hl=>by
  have h':ty= .unit:=by cases n<;>simpa [tyR.go] using h.symm
  subst h';exact⟨(),by simp[RelE,Ty.size],trivial⟩
 |0,off,p::ps,ty,h,cs,hp,hl=>by simp[tyR.go] at h
 |n+1,off,[(o,t)],ty,h,cs,hp,hl=>by
  simp only[tyR.go] at h;split at h
  ·rename_i ho;subst ho;split at h
   ·rename_i a ha;split at h
    ·rename_i hs;simp only[sI] at h;subst h;have:=hp (o,t) List.mem_cons_self;rw[hs];exact trod_rel n t ha this
    ·cases h
   ·cases h
  ·cases h
 |n+1,off,(o,t)::p2::ps,ty,h,cs,hp,hl=>by
  simp only[tyR.go] at h;split at h
  ·rename_i ho;subst ho;split at h
   ·rename_i a c ha hc;split at h
    ·rename_i hs;simp only[sI] at h;subst h;simp only[Ty.size] at hl⊢;obtain⟨x,g1,g2⟩:=trod_rel n t ha (hp (o,t) List.mem_cons_self);obtain⟨y,g3,g4⟩:=go_rel n (o+P.cellsOf t) (p2::ps) hc (fun q hq=>hp q (List.mem_cons_of_mem _ hq)) (by omega);refine⟨(x,y),⟨_,_,?_,g1,g3⟩,g2,g4⟩;rw[←hs,List.take_add,←List.drop_drop]
    ·cases h
   ·cases h
  ·cases h
end
end
open Go Go.ChangeShapes Go.RowKit Go.ChangeAt
def Vals:List Ty→Type
 | []=>Unit
 |t::ts=>t.El×Vals ts
def argsD (P:Program):List TypeId→(tys:List Ty)→Vals tys→Option (List D)
 | [],[],_=>some []
 |t::ts,ty::tys,x=>match valD P t (ty.cells x.1),argsD P ts tys x.2 with
  |some d,some ds=>some (d::ds)
  |_,_=>none
 |_,_,_=>none
section
variable {H:Type} {enc:TypeId×Value→H} {P:Program} {w:World} {sp:Nat→Bool} {held:Bool}
theorem okWide_agg {t:TypeId} (ha:aggB P t=true) {r:Reach} {base:Nat} {v:Value} (hv:Value.okWide P w r base t v):∃cs,v= .agg cs:=by
 unfold Value.okWide at hv;unfold aggB at ha;split at ha
 ·rename_i fs hu;rw[hu] at hv;obtain⟨cs,e,_⟩:=hv;exact⟨cs,e⟩
 ·rename_i len e hu;rw[hu] at hv;obtain⟨cs,e,_⟩:=hv;exact⟨cs,e⟩
 ·cases ha
theorem trodAll_len:∀{ts:List TypeId} {vs:List Value} {ds:List (DataW H)} {ps:List MemPlace},DataW.TrodAll enc P w 0 sp held ts vs ds ps→ds.length=ts.length
 | [],[],[],_,_=>rfl
 |_::_,_::_,_::_,_,⟨_,_,_,h2,_⟩=>by simp[trodAll_len h2]
theorem trodAll_carry {w':World}:∀{ts:List TypeId} {vs:List Value} {ds:List (DataW H)} {ps:List MemPlace},DataW.TrodAll enc P w 0 sp held ts vs ds ps→(∀p∈ps,w.sameAt w' p)→DataW.TrodAll enc P w' 0 sp held ts vs ds ps
 | [],[],[],_,h,_=>h
 |_::_,_::_,_::_,_,⟨p,q,⟨n,h1⟩,h2,e⟩,hs=>
  ⟨p,q,⟨n,DataW.trod_carry n _ _ _ h1 (fun x hx=>hs x (by rw[e];exact List.mem_append_left _ hx))⟩,trodAll_carry h2 (fun x hx=>hs x (by rw[e];exact List.mem_append_right _ hx)),e⟩
theorem sameAt_old {w':World} (hk:∀k,k<w.heap.size→w'.heap[k]? =w.heap[k]?) {p:MemPlace} (hp:p.block<w.heap.size):w.sameAt w' p:=by
 cases p with
 |cell b off=>exact cell_same (hk b hp)
 |map b=>exact hk b hp
theorem keptBut_old {w':World} (hos:w'.os=w.os) (hout:w'.output=w.output) (hk:∀k,k<w.heap.size→w'.heap[k]? =w.heap[k]?) (may:MemPlace→Prop):w.keptBut w' may:=by
 refine⟨hos,hout,fun i hi=> ?_⟩;rw[hk i hi];cases w.heap[i]? with
 |none=>rfl
 |some o=>cases o<;>first|exact⟨rfl,rfl,rfl,fun _ _=>rfl⟩|exact .inr ⟨rfl,rfl⟩|rfl
end
end Go.Proofs.YtnakmganodkliaaDoorAm
