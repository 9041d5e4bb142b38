/- What refute.Prove may tell, for every problem (claim RefuteProves): the logic, the contracts and the plain laws (part 4) -/
import Derived.Scope
import Derived.RangeFuncRecord
import Derived.Test.YtnakmganodkliaaDoorPrc
set_option linter.unusedVariables false
set_option linter.unusedSimpArgs false
namespace Go.Proofs.YtnakmganodkliaaDoorAm
open Go
theorem opEff_congr {P:Program} {rd:Nat→Option Row} {nid:Nat} {sp:Sp} {o:Oper} {ev ev':Operand→D} (h:∀x∈o.op.operands,ev x=ev' x):opEff P rd nid sp o ev=opEff P rd nid sp o ev':=by
 obtain⟨dst,op,type,pos,after,guard⟩:=o;have pairs:∀ps:Array (Nat×Operand),(∀x∈ps.map (·.2),ev x=ev' x)→(ps.toList.map fun(i,x)=>(i,ev x))=(ps.toList.map fun(i,x)=>(i,ev' x)):=fun ps hp=>
  List.map_congr_left fun p hm=>by
   obtain⟨i,x⟩:=p;simp only[hp x (Array.mem_map.2 ⟨(i,x),Array.mem_toList_iff.1 hm,rfl⟩)]
 cases op;case move x=>simp only[opEff];rw[h x (by simp[Op.operands])]
 case assign x=>simp only[opEff];rw[h x (by simp[Op.operands])]
 case pick c x y=>simp only[opEff];rw[h c (by simp[Op.operands]),h x (by simp[Op.operands]),h y (by simp[Op.operands])]
 case box t x=>simp only[opEff];rw[h x (by simp[Op.operands])]
 case build t ps=>simp only[opEff];rw[pairs ps fun x hx=>h x (by simpa [Op.operands] using hx)]
 case buildSlice t n ps=>simp only[opEff];rw[pairs ps fun x hx=>h x (by simpa [Op.operands] using hx)]
 case load t x=>simp only[opEff];rw[h x (by simp[Op.operands])]
 case store t x y=>simp only[opEff];rw[h x (by simp[Op.operands]),h y (by simp[Op.operands])]
 case nilCheck x=>simp only[opEff];rw[h x (by simp[Op.operands])]
 case binOp op t x y t'=>simp only[opEff];rw[h x (by simp[Op.operands]),h y (by simp[Op.operands])]
 case unOp op t x=>simp only[opEff];rw[h x (by simp[Op.operands])]
 case convert t t' x=>simp only[opEff];rw[h x (by simp[Op.operands])]
 case makeSlice t x y=>simp only[opEff];rw[h x (by simp[Op.operands]),h y (by simp[Op.operands])]
 case fieldAddr t x f=>simp only[opEff];rw[h x (by simp[Op.operands])]
 case indexAddr t x y=>simp only[opEff];rw[h x (by simp[Op.operands]),h y (by simp[Op.operands])]
 case index t x y=>simp only[opEff];rw[h x (by simp[Op.operands]),h y (by simp[Op.operands])]
 case extract t i=>simp only[opEff];rw[h t (by simp[Op.operands])]
 case slice t x lo hi mx=>
  have e1:lo.map ev=lo.map ev':=by
   cases lo with
   |none=>rfl
   |some y=>simp only[Option.map_some];rw[h y (by simp[Op.operands])]
  have e2:hi.map ev=hi.map ev':=by
   cases hi with
   |none=>rfl
   |some y=>simp only[Option.map_some];rw[h y (by simp[Op.operands])]
  have e3:mx.map ev=mx.map ev':=by
   cases mx with
   |none=>rfl
   |some y=>simp only[Option.map_some];rw[h y (by simp[Op.operands])]
  simp only[opEff];rw[h x (by simp[Op.operands]),e1,e2,e3]
 case makeFunc fn first captured=>
  cases fn<;>simp only[opEff]
  rw[List.map_congr_left (l:=captured.toList) fun x hx=>h x (by simp[Op.operands,Array.mem_toList_iff.1 hx])]
 case call c=>
  have hargs:c.args.toList.map ev=c.args.toList.map ev':=List.map_congr_left fun x hx=>h x (by simp[Op.operands,Call.operands,Array.mem_toList_iff.1 hx]);simp only[opEff];rw[hargs];cases hc:c.callee with
  |value f=>have hf:ev f=ev' f:=h f (by simp[Op.operands,Call.operands,hc]);simp only[hf]
  |invoke r m=>rfl
  |builtin b=>rfl
 all_goals rfl
theorem opEff_rd {P:Program} {rd rd':Nat→Option Row} {nid:Nat} {sp:Sp} {o:Oper} {ev:Operand→D} (h:heapy o=false):opEff P rd nid sp o ev=opEff P rd' nid sp o ev:=by
 obtain⟨dst,op,type,pos,after,guard⟩:=o;cases op<;>simp only[heapy] at h
 all_goals first
  |(cases h;done)
  |rfl
  |skip
 case makeFunc fn first captured=>cases fn<;>rfl
 case call c=>
  simp only[opEff];cases hc:c.callee with
  |value f=>simp[hc] at h
  |invoke r m=>rfl
  |builtin b=>
   simp only;cases b<;>simp[hc] at h<;>rfl
theorem opEff_nowrite {P:Program} {rd:Nat→Option Row} {nid:Nat} {sp:Sp} {o:Oper} {ev:Operand→D} {E:Eff} (h:heapy o=false) (hE:opEff P rd nid sp o ev=some E):E.writes=[]:=by
 obtain⟨dst,op,type,pos,after,guard⟩:=o;cases op<;>simp only[heapy] at h
 all_goals first
  |(cases h;done)
  |skip
 case makeFunc fn first captured=>
  cases fn<;>simp only[opEff] at hE
  ·split at hE
   ·simp only[sI] at hE;subst hE;rfl
   ·cases hE
  all_goals cases hE
 case call c=>
  simp only[opEff] at hE;cases hc:c.callee with
  |value f=>simp[hc] at h
  |invoke r m=>rw[hc] at hE;cases hE
  |builtin b=>
   rw[hc] at hE;simp only at hE;have hE:biEff P rd nid b (c.args.toList.map ev) c.argTypes.toList=some E:=by
    cases b<;>first|exact hE|(simp[hc] at h;done)
   unfold biEff at hE;split at hE
   all_goals first
    |(simp[hc] at h;done)
    |((try unfold lenEff at hE)<;>(try unfold capEff at hE)<;>(try unfold minEff at hE)<;>(try unfold maxEff at hE)<;>(repeat' split at hE)<;>first|(cases hE;done)|(simp only[sI] at hE;subst hE;rfl))
 all_goals
  simp only[opEff] at hE
  (repeat' split at hE)<;>first
   |(cases hE;done)
   |(simp only[sI] at hE;subst hE;rfl)
   |(rw[Option.map_eq_some_iff] at hE;obtain⟨_,_,rfl⟩:=hE;rfl)
theorem setAllocs_set (rs:List Row):∀(H:Heap) (n i:Nat) (s:Slot),(i<n∨n+rs.length≤i)→setAllocs (H.set i s) n rs=(setAllocs H n rs).set i s:=by
 induction rs with
 |nil=>intros;rfl
 |cons r rs ih=>
  intro H n i s h;simp only[setAllocs];rw[List.set_comm _ _ (by simp at h;omega),ih _ _ _ _ (by simp at h;omega)]
theorem setAllocs_comm (rs qs:List Row):∀(H:Heap) (n m:Nat),(n+rs.length≤m∨m+qs.length≤n)→setAllocs (setAllocs H n rs) m qs=setAllocs (setAllocs H m qs) n rs:=by
 induction rs with
 |nil=>intros;rfl
 |cons r rs ih=>
  intro H n m h;simp only[setAllocs];rw[ih _ _ _ (by simp at h;omega),setAllocs_set qs H m n (.live r) (by simp at h;omega)]
theorem setWrites_allocs (ws:List (Nat×Option Row)):∀(rs:List Row) (H:Heap) (n:Nat),(∀p∈ws,p.1<n∨n+rs.length≤p.1)→setWrites (setAllocs H n rs) ws=setAllocs (setWrites H ws) n rs:=by
 induction ws with
 |nil=>intros;rfl
 |cons w ws ih=>
  obtain⟨id,r⟩:=w;intro rs H n h;simp only[setWrites];rw[←setAllocs_set rs H n id _ (h _ List.mem_cons_self),ih _ _ _ (fun p hp=>h p (List.mem_cons_of_mem _ hp))]
theorem free_back {H:Heap} {n:Nat} {rs:List Row} {ws:List (Nat×Option Row)} {id:Nat} (h:slot (setWrites (setAllocs H n rs) ws) id= .free) (hl:id<H.length):slot H id= .free:=by
 have h1:slot (setAllocs H n rs) id= .free:=by
  induction ws generalizing H n rs with
  |nil=>exact h
  |cons w ws ih=>
   obtain⟨i,r⟩:=w;simp only[setWrites] at h;have h2:slot ((setAllocs H n rs).set i (slotOf r)) id= .free:=by
    have:=ih (H:=(setAllocs H n rs).set i (slotOf r)) (n:=0) (rs:=[]) h (by simpa [setAllocs_length] using hl);simpa [setAllocs] using this
   rw[slot_set] at h2;split at h2
   ·cases r<;>simp[slotOf] at h2
   ·exact h2
 rcases Nat.lt_or_ge id n with hn|hn
 ·rwa [slot_setAllocs_out rs H n (.inl hn)] at h1
 ·rcases Nat.lt_or_ge id (n+rs.length) with h3|h3
  ·have:=slot_setAllocs_in rs H n (j:=id-n) (r:=rs[id-n]'(by omega)) (gQ (by omega)) (by omega);rw[show n+(id-n)=id by omega,h1] at this;cases this
  ·rwa [slot_setAllocs_out rs H n (.inr h3)] at h1
theorem freeB_iff {H:Heap} {n k:Nat}:freeB H n k=true↔∀j,j<k→n+j<H.length∧slot H (n+j)= .free:=by
 unfold freeB;rw[List.all_eq_true];constructor
 ·intro h j hj;have:=h j (List.mem_range.2 hj);simp only[Bool.and_eq_true,decide_eq_true_eq] at this;refine⟨this.1,?_⟩;have h2:=this.2;split at h2
  ·assumption
  ·cases h2
 ·intro h j hj;have:=h j (List.mem_range.1 hj);simp[this.1,this.2]
theorem hget_free {H:Heap} {id:Nat} (h:slot H id= .free):hget H id=none:=by unfold hget;rw[h]
structure Indep (ops:Array Oper) (x y:Dec):Prop where
 apart:x.o.apart ops y.o=true
 rng:x.nid+x.cnt≤y.nid∨y.nid+y.cnt≤x.nid
 fy:∀j,j<x.cnt→x.nid+j∈y.forb
 fx:∀j,j<y.cnt→y.nid+j∈x.forb
 wx:x.wr=true→heapy y.o=false
 wy:y.wr=true→heapy x.o=false
 sx:∀id∈x.ws,id∈y.forb
 sy:∀id∈y.ws,id∈x.forb
theorem evalD_put {tmps:List D} {dst:Option Tmp} {v:D} {x:Operand} (h:∀d,dst=some d→x≠ .tmp d):evalD (putD tmps dst v) x=evalD tmps x:=by
 cases dst with
 |none=>rfl
 |some d=>
  cases x with
  |tmp t=>
   have hne:d≠t:=fun e=>h d rfl (e▸rfl);simp[evalD,putD,List.getElem?_set_ne hne]
  |_=>rfl
theorem opEff_put {P:Program} {ops:Array Oper} {rd:Nat→Option Row} {nid:Nat} {sp:Sp} {o:Oper} {tmps:List D} {dst:Option Tmp} {v:D} (h:∀d,dst=some d→d∉o.looksAt ops):
  opEff P rd nid sp o (evalD (putD tmps dst v))=opEff P rd nid sp o (evalD tmps):=
 opEff_congr fun x hx=>evalD_put fun d hd hxd=>h d hd (by
  subst hxd;exact List.mem_append_left _ (List.mem_filterMap.2 ⟨.tmp d,by simpa using hx,rfl⟩))
theorem effD_put {P:Program} {ops:Array Oper} {rd:Nat→Option Row} {d:Dec} {tmps:List D} {dst:Option Tmp} {v:D} (h:∀t,dst=some t→t∉d.o.looksAt ops):
  effD P rd d (evalD (putD tmps dst v))=effD P rd d (evalD tmps):=by
 unfold effD;rw[opEff_put h]
theorem effD_rd {P:Program} {rd rd':Nat→Option Row} {d:Dec} {ev:Operand→D} (h:heapy d.o=false):effD P rd d ev=effD P rd' d ev:=by
 unfold effD;rw[opEff_rd h]
theorem effD_nowrite {P:Program} {rd:Nat→Option Row} {d:Dec} {ev:Operand→D} {E:Eff} (h:heapy d.o=false) (hE:effD P rd d ev=some E):E.writes=[]:=by
 unfold effD at hE;split at hE
 ·rename_i E0 h0;have:=opEff_nowrite h h0;unfold fixE at hE;split at hE
  ·simp only[sI] at hE;subst hE;exact this
  ·split at hE
   ·simp only[sI] at hE;subst hE;exact this
   ·cases hE
 ·cases hE
theorem wantedD_put {ops:Array Oper} {o:Oper} {tmps:List D} {dst:Option Tmp} {v:D} (h:∀d,dst=some d→d∉o.looksAt ops):wantedD ops (putD tmps dst v) o=wantedD ops tmps o:=by
 cases dst with
 |none=>rfl
 |some d=>
  unfold wantedD;cases hg:o.guard with
  |none=>rfl
  |some gw=>
   obtain⟨g,want⟩:=gw;simp only;cases ht:(ops[g]?).bind (·.dst) with
   |none=>rfl
   |some t=>
    have hne:d≠t:=fun e=>h d rfl (by subst e;simp[Oper.looksAt,hg,ht]);simp[putD,List.getElem?_set_ne hne]
theorem putD_comm (tmps:List D) {x y:Option Tmp} (v u:D) (h:∀d,x=some d→y≠some d):putD (putD tmps x v) y u=putD (putD tmps y u) x v:=by
 cases x with
 |none=>rfl
 |some d=>
  cases y with
  |none=>rfl
  |some e=>
   have hne:d≠e:=fun he=>h d rfl (he▸rfl);simp only[putD];exact List.set_comm _ _ hne
def okE (d:Dec) (H:Heap) (E:Eff):Bool:=(d.wr||E.writes.all fun p=>d.ws.contains p.1)&&decide (E.allocs.length≤d.cnt)&&freeB H d.nid E.allocs.length&&E.writes.all (fun p=>(rdOf H d.forb p.1).isSome)
theorem stepD_cases {P:Program} {ops:Array Oper} {d:Dec} {s s':St} {ps:List Prop} (h:stepD P ops d s=some (s',ps)):
  (wantedD ops s.tmps d.o=some false∧s'=⟨putD s.tmps d.o.dst (.v undef),s.heap⟩∧ps=[])∨
  (wantedD ops s.tmps d.o=some true∧∃E,effD P (rdOf s.heap d.forb) d (evalD s.tmps)=some E∧okE d s.heap E=true∧
   s'=⟨putD s.tmps d.o.dst E.val,setWrites (setAllocs s.heap d.nid E.allocs) E.writes⟩∧ps=E.obl):=by
 unfold stepD at h;split at h
 ·rename_i hw;split at h
  ·rename_i E hE;split at h
   ·rename_i hg;simp only[sI,Prod.mk.injEq] at h;exact .inr ⟨hw,E,hE,hg,h.1.symm,h.2.symm⟩
   ·cases h
  ·cases h
 ·rename_i hw;simp only[sI,Prod.mk.injEq] at h;exact .inl ⟨hw,h.1.symm,h.2.symm⟩
 ·cases h
theorem stepD_no {P:Program} {ops:Array Oper} {d:Dec} {s:St} (h:wantedD ops s.tmps d.o=some false):stepD P ops d s=some (⟨putD s.tmps d.o.dst (.v undef),s.heap⟩,[]):=by
 unfold stepD;rw[h]
theorem stepD_yes {P:Program} {ops:Array Oper} {d:Dec} {s:St} {E:Eff} (h:wantedD ops s.tmps d.o=some true) (hE:effD P (rdOf s.heap d.forb) d (evalD s.tmps)=some E) (hk:okE d s.heap E=true):
  stepD P ops d s=some (⟨putD s.tmps d.o.dst E.val,setWrites (setAllocs s.heap d.nid E.allocs) E.writes⟩,E.obl):=by
 unfold stepD;rw[h];simp only[hE];rw[if_pos (by simpa [okE] using hk)]
theorem rdOf_congr {H H':Heap} {forb:List Nat} (h:∀id,id∉forb→hget H' id=hget H id):rdOf H' forb=rdOf H forb:=by
 funext id
 unfold rdOf;by_cases hf:id∈forb
 ·simp[hf]
 ·rw[h id hf]
theorem hget_allocs {H:Heap} {n:Nat} {rs:List Row} {id:Nat} (h:∀j,j<rs.length→n+j≠id):hget (setAllocs H n rs) id=hget H id:=by
 unfold hget;rw[slot_setAllocs_out rs H n];rcases Nat.lt_or_ge id n with h1|h1
 ·exact .inl h1
 ·rcases Nat.lt_or_ge id (n+rs.length) with h2|h2
  ·exact absurd (by omega) (h (id-n) (by omega))
  ·exact .inr h2
structure OkE (d:Dec) (H:Heap) (E:Eff):Prop where
 wr:d.wr=true∨∀p∈E.writes,p.1∈d.ws
 cnt:E.allocs.length≤d.cnt
 free:∀j,j<E.allocs.length→d.nid+j<H.length∧slot H (d.nid+j)= .free
 live:∀p∈E.writes,(rdOf H d.forb p.1).isSome=true
theorem okE_iff {d:Dec} {H:Heap} {E:Eff}:okE d H E=true↔OkE d H E:=by
 unfold okE;simp only[Bool.and_eq_true,Bool.or_eq_true,decide_eq_true_eq,freeB_iff,List.all_eq_true,List.contains_eq_mem];exact⟨fun⟨⟨⟨a,b⟩,c⟩,d⟩=>⟨a,b,c,d⟩,fun⟨a,b,c,d⟩=>⟨⟨⟨a,b⟩,c⟩,d⟩⟩
theorem rdOf_not {H:Heap} {forb:List Nat} {id:Nat} (h:(rdOf H forb id).isSome=true):id∉forb:=by
 intro hm;unfold rdOf at h;simp[hm] at h
theorem wr_range {d:Dec} {H:Heap} {E:Eff} (h:OkE d H E) {n k:Nat} (hf:∀j,j<k→slot H (n+j)= .free):∀p∈E.writes,p.1<n∨n+k≤p.1:=by
 intro p hp;have h1:=h.live p hp;obtain⟨r,hr⟩:=Option.isSome_iff_exists.1 h1;have h2:=rdOf_some hr;rcases Nat.lt_or_ge p.1 n with h3|h3
 ·exact .inl h3
 ·rcases Nat.lt_or_ge p.1 (n+k) with h4|h4
  ·have:=hget_free (hf (p.1-n) (by omega));rw[show n+(p.1-n)=p.1 by omega,h2] at this;cases this
  ·exact .inr h4
theorem rdOf_after {x y:Dec} {H:Heap} {Ex:Eff} (hx:OkE x H Ex) (hw:∀p∈Ex.writes,p.1∈y.forb) (hf:∀j,j<x.cnt→x.nid+j∈y.forb):rdOf (setWrites (setAllocs H x.nid Ex.allocs) Ex.writes) y.forb=rdOf H y.forb:=by
 refine rdOf_congr fun id hn=> ?_;rw[hget_setWrites _ _ _ (fun p hp (e:p.1=id)=>hn (e▸hw p hp))];exact hget_allocs fun j hj e=>hn (e▸hf j (Nat.lt_of_lt_of_le hj hx.cnt))
theorem opEff_after {P:Program} {ops:Array Oper} {x y:Dec} {H:Heap} {Ex:Eff} {ev:Operand→D} (hI:Indep ops x y) (hx:OkE x H Ex):
  effD P (rdOf (setWrites (setAllocs H x.nid Ex.allocs) Ex.writes) y.forb) y ev=effD P (rdOf H y.forb) y ev:=by
 rcases hx.wr with h|h
 ·exact effD_rd (hI.wx h)
 ·rw[rdOf_after hx (fun p hp=>hI.sx _ (h p hp)) hI.fy]
theorem setWrites_comm:∀(ws vs:List (Nat×Option Row)) (H:Heap),(∀p∈ws,∀q∈vs,p.1≠q.1)→setWrites (setWrites H ws) vs=setWrites (setWrites H vs) ws
 | [],vs,H,_=>rfl
 |(i,r)::ws,vs,H,h=>by
  simp only[setWrites];rw[setWrites_comm ws vs _ (fun p hp q hq=>h p (List.mem_cons_of_mem _ hp) q hq),setWrites_set vs H i (slotOf r) (fun q hq e=>h (i,r) List.mem_cons_self q hq e.symm)]
theorem heaps_comm {ops:Array Oper} {x y:Dec} {H:Heap} {Ex Ey:Eff} (hI:Indep ops x y) (hx:OkE x H Ex) (hy:OkE y H Ey) (hd:∀p∈Ex.writes,∀q∈Ey.writes,p.1≠q.1):
  setWrites (setAllocs (setWrites (setAllocs H x.nid Ex.allocs) Ex.writes) y.nid Ey.allocs) Ey.writes=setWrites (setAllocs (setWrites (setAllocs H y.nid Ey.allocs) Ey.writes) x.nid Ex.allocs) Ex.writes:=by
 have hr:x.nid+Ex.allocs.length≤y.nid∨y.nid+Ey.allocs.length≤x.nid:=by
  have:=hx.cnt;have:=hy.cnt;rcases hI.rng with h|h<;>omega
 have h1:=wr_range hx (fun j hj=>(hy.free j hj).2);have h2:=wr_range hy (fun j hj=>(hx.free j hj).2);rw[←setWrites_allocs _ _ _ _ h1,←setWrites_allocs _ _ _ _ h2,setAllocs_comm _ _ H _ _ hr,setWrites_comm _ _ _ hd]
theorem stepD_comm {P:Program} {ops:Array Oper} {x y:Dec} {s s1 s2:St} {p q:List Prop} (hI:Indep ops x y) (h1:stepD P ops x s=some (s1,p)) (h2:stepD P ops y s1=some (s2,q)):
  ∃s3,stepD P ops y s=some (s3,q)∧stepD P ops x s3=some (s2,p):=by
 obtain⟨a1,a2,a3⟩:=Oper.apart_spec hI.apart;have a1':∀d,x.o.dst=some d→d∉y.o.looksAt ops:=a1;have noX:∀(v:D) (H:Heap),wantedD ops s.tmps x.o=some false→stepD P ops x ⟨putD s.tmps y.o.dst v,H⟩=some (⟨putD (putD s.tmps y.o.dst v) x.o.dst (.v undef),H⟩,[]):=fun v H w=>
  stepD_no (s:=⟨putD s.tmps y.o.dst v,H⟩) (by show wantedD ops (putD _ _ _) _=_;rw[wantedD_put a3];exact w)
 have yesX:∀(v:D) (H:Heap) (E:Eff),wantedD ops s.tmps x.o=some true→effD P (rdOf H x.forb) x (evalD s.tmps)=some E→okE x H E=true→
   stepD P ops x ⟨putD s.tmps y.o.dst v,H⟩=some (⟨putD (putD s.tmps y.o.dst v) x.o.dst E.val,setWrites (setAllocs H x.nid E.allocs) E.writes⟩,E.obl):=fun v H E w hE hk=>
  stepD_yes (s:=⟨putD s.tmps y.o.dst v,H⟩) (by show wantedD ops (putD _ _ _) _=_;rw[wantedD_put a3];exact w) (by show effD _ _ _ (evalD (putD _ _ _))=_;rw[effD_put a3];exact hE) hk
 rcases stepD_cases h1 with⟨w1,e1,rfl⟩|⟨w1,Ex,hEx,kx,e1,rfl⟩
 ·subst e1;rcases stepD_cases h2 with⟨w2,e2,rfl⟩|⟨w2,Ey,hEy,ky,e2,rfl⟩
  ·subst e2;simp only at w2;rw[wantedD_put a1] at w2;refine⟨_,stepD_no w2,?_⟩;rw[noX _ _ w1,putD_comm _ _ _ a2]
  ·subst e2;simp only at w2 hEy ky;rw[wantedD_put a1] at w2;rw[effD_put a1] at hEy;refine⟨_,stepD_yes w2 hEy ky,?_⟩;rw[noX _ _ w1,putD_comm _ _ _ a2]
 ·subst e1;have kx':=okE_iff.1 kx;rcases stepD_cases h2 with⟨w2,e2,rfl⟩|⟨w2,Ey,hEy,ky,e2,rfl⟩
  ·subst e2;simp only at w2;rw[wantedD_put a1] at w2;refine⟨_,stepD_no w2,?_⟩;rw[yesX _ _ _ w1 hEx kx,putD_comm _ _ _ a2]
  ·subst e2;simp only at w2 hEy ky;rw[wantedD_put a1] at w2;rw[effD_put a1,opEff_after hI kx'] at hEy;have ky':=okE_iff.1 ky;have hfree:∀j,j<Ey.allocs.length→y.nid+j<s.heap.length∧slot s.heap (y.nid+j)= .free:=by
    intro j hj;obtain⟨g1,g2⟩:=ky'.free j hj;rw[setWrites_length,setAllocs_length] at g1;exact⟨g1,free_back g2 g1⟩
   have hxw:(∀p∈Ex.writes,p.1∈y.forb)∨Ey.writes=[]:=by
    rcases kx'.wr with h|h
    ·exact .inr (effD_nowrite (hI.wx h) hEy)
    ·exact .inl fun p hp=>hI.sx _ (h p hp)
   have hyw:(∀p∈Ey.writes,p.1∈x.forb)∨Ex.writes=[]:=by
    rcases ky'.wr with h|h
    ·exact .inr (effD_nowrite (hI.wy h) hEx)
    ·exact .inl fun p hp=>hI.sy _ (h p hp)
   have ky2:OkE y s.heap Ey:=by
    refine⟨ky'.wr,ky'.cnt,hfree,?_⟩;rcases hxw with h|h
    ·have:=ky'.live;rw[rdOf_after kx' h hI.fy] at this;exact this
    ·rw[h];simp
   have hdis:∀p∈Ex.writes,∀q∈Ey.writes,p.1≠q.1:=by
    rcases hxw with h|h
    ·intro p hp q hq e;exact rdOf_not (ky2.live q hq) (e▸h p hp)
    ·rw[h];simp
   refine⟨_,stepD_yes w2 hEy (okE_iff.2 ky2),?_⟩;have hEx':effD P (rdOf (setWrites (setAllocs s.heap y.nid Ey.allocs) Ey.writes) x.forb) x (evalD s.tmps)=some Ex:=by
    rcases ky2.wr with h|h
    ·rw[effD_rd (rd':=rdOf s.heap x.forb) (hI.wy h)];exact hEx
    ·rw[rdOf_after ky2 (fun p hp=>hI.sy _ (h p hp)) hI.fx];exact hEx
   have kx2:OkE x (setWrites (setAllocs s.heap y.nid Ey.allocs) Ey.writes) Ex:=by
    refine⟨kx'.wr,kx'.cnt,?_,?_⟩
    ·intro j hj;obtain⟨g1,g2⟩:=kx'.free j hj;refine⟨by rw[setWrites_length,setAllocs_length];exact g1,?_⟩;have hw:=wr_range ky2 (fun j hj=>(kx'.free j hj).2);have hr:x.nid+Ex.allocs.length≤y.nid∨y.nid+Ey.allocs.length≤x.nid:=by
      have:=kx'.cnt;have:=ky2.cnt;rcases hI.rng with h|h<;>omega
     rw[slot_setWrites _ _ _ (fun p hp=>by have:=hw p hp;omega),slot_setAllocs_out _ _ _ (by omega)];exact g2
    ·rcases hyw with h|h
     ·rw[rdOf_after ky2 h hI.fx];exact kx'.live
     ·rw[h];simp
   rw[yesX _ _ _ w1 hEx' (okE_iff.2 kx2),putD_comm _ _ _ a2,heaps_comm hI kx' ky2 hdis]
theorem runD_front {P:Program} {ops:Array Oper} {d:Dec} {L2:List Dec} {s':St}:∀(L1:List Dec) {s:St} {ps:List Prop},(∀x∈L1,Indep ops x d)→runD P ops (L1++d::L2) s=some (s',ps)→
  ∃ps',runD P ops (d::(L1++L2)) s=some (s',ps')∧∀p∈ps',p∈ps
 | [],s,ps,_,h=>⟨ps,h,fun _ hp=>hp⟩
 |x::L1,s,ps,hI,h=>by
  simp only[List.cons_append,runD] at h;split at h
  ·rename_i s1 p1 hs;split at h
   ·rename_i s2 p2 hr;simp only[sI,Prod.mk.injEq] at h;obtain⟨rfl,rfl⟩:=h;obtain⟨ps',h',hsub⟩:=runD_front L1 (fun y hy=>hI y (List.mem_cons_of_mem _ hy)) hr;simp only[runD] at h';split at h'
    ·rename_i s3 q hd;split at h'
     ·rename_i s4 q2 hr2;simp only[sI,Prod.mk.injEq] at h';obtain⟨rfl,rfl⟩:=h';obtain⟨s5,g1,g2⟩:=stepD_comm (hI x List.mem_cons_self) hs hd;refine⟨q++(p1++q2),?_,?_⟩
      ·simp only[List.cons_append,runD,g1,g2,hr2]
      ·intro p hp;rcases List.mem_append.1 hp with h|h
       ·exact List.mem_append_right _ (hsub p (List.mem_append_left _ h))
       ·rcases List.mem_append.1 h with h|h
        ·exact List.mem_append_left _ h
        ·exact List.mem_append_right _ (hsub p (List.mem_append_right _ h))
     ·cases h'
    ·cases h'
   ·cases h
  ·cases h
structure OrderOk (ops:Array Oper) (B:Array Nat):Prop where
 back:∀k o e,ops[k]? =some o→e∈o.after→Region.binds .any e=true→e.on<k
 bits:∀k o j,ops[k]? =some o→(B.getD k 0).testBit j=true→∃e,e∈o.after∧Region.binds .any e=true∧(j=e.on∨(B.getD e.on 0).testBit j=true)
theorem bits_fold {B:Array Nat} {j:Nat}:∀(l:List Edge) (s:Nat),(l.foldl (fun s e=>if Region.binds .any e then s|||2^e.on|||B.getD e.on 0 else s) s).testBit j=true→
  s.testBit j=true∨∃e,e∈l∧Region.binds .any e=true∧(j=e.on∨(B.getD e.on 0).testBit j=true)
 | [],s,h=> .inl h
 |e::l,s,h=>by
  simp only[List.foldl_cons] at h;rcases bits_fold l _ h with h1|⟨e',h1,h2⟩
  ·split at h1
   ·rename_i hb;rw[Nat.testBit_or,Nat.testBit_or,Bool.or_eq_true,Bool.or_eq_true] at h1;rcases h1 with(h1|h1)|h1
    ·exact .inl h1
    ·rw[Nat.testBit_two_pow] at h1;exact .inr ⟨e,List.mem_cons_self,hb,.inl (by simpa using(of_decide_eq_true h1).symm)⟩
    ·exact .inr ⟨e,List.mem_cons_self,hb,.inr h1⟩
   ·exact .inl h1
  ·exact .inr ⟨e',List.mem_cons_of_mem _ h1,h2⟩
theorem orderOk {ops:Array Oper} {B:Array Nat} (h:orderB ops B=true):OrderOk ops B:=by
 unfold orderB at h;rw[List.all_eq_true] at h;refine⟨fun k o e hk he hb=> ?_,fun k o j hk hj=> ?_⟩
 ·have:=h k (List.mem_range.2 (Array.getElem?_eq_some_iff.1 hk).1);rw[hk] at this;simp only[Bool.and_eq_true] at this;have h2:=List.all_eq_true.1 this.2 e (Array.mem_toList_iff.2 he);simpa [hb] using h2
 ·have:=h k (List.mem_range.2 (Array.getElem?_eq_some_iff.1 hk).1);rw[hk] at this;simp only[Bool.and_eq_true,beq_iff_eq] at this;rw[this.1] at hj;rcases bits_fold _ _ hj with h1|⟨e,h1,h2⟩
  ·simp at h1
  ·exact⟨e,Array.mem_toList_iff.1 h1,h2⟩
theorem bits_lt {ops:Array Oper} {B:Array Nat} (hB:OrderOk ops B):∀(n k:Nat),k≤n→∀o j,ops[k]? =some o→(B.getD k 0).testBit j=true→j<k:=by
 intro n;induction n with
 |zero=>
  intro k hk o j ho hj;obtain⟨e,h1,h2,h3⟩:=hB.bits k o j ho hj;have:=hB.back k o e ho h1 h2;omega
 |succ n ih=>
  intro k hk o j ho hj;obtain⟨e,h1,h2,h3⟩:=hB.bits k o j ho hj;have h4:=hB.back k o e ho h1 h2;rcases h3 with h3|h3
  ·omega
  ·have hlt:k<ops.size:=(Array.getElem?_eq_some_iff.1 ho).1;have:=ih e.on (by omega) ops[e.on] j (Array.getElem?_eq_getElem (by omega)) h3;omega
theorem getD_flip {l:Array Bool} {j:Nat} (h:j<l.size) (d d':Bool):l.getD j d=l.getD j d':=by
 rw[Array.getD_eq_getD_getElem?,Array.getD_eq_getD_getElem?,Array.getElem?_eq_getElem h];rfl
theorem getD_put {l:Array Bool} {i j:Nat} (hi:i<l.size):(l.setIfInBounds i true).getD j true=if i=j then true else l.getD j true:=by
 rw[Array.getD_eq_getD_getElem?,Array.getD_eq_getD_getElem?,Array.getElem?_setIfInBounds];split
 ·rfl
 ·rfl
theorem mem_mid {α:Type} {q x:α} {L1 L2:List α} (h:q∈L1++L2):q∈L1++x::L2:=by
 rcases List.mem_append.1 h with h|h
 ·exact List.mem_append_left _ h
 ·exact List.mem_append_right _ (List.mem_cons_of_mem _ h)
section
variable {P:Program} {b:Beg}
theorem any_sound {ops:Array Oper} {Q:Exit→Act→World→Prop} {B:Array Nat} (hB:OrderOk ops B):∀(n:Nat) (L:List (Nat×Dec)) (listed:Array Bool) {X:Ctx} {s s':St} {ps:List Prop} {a:Act},L.length=n→
  L.Pairwise (fun p q=>p.1<q.1)→(∀p∈L,ops[p.1]? =some p.2.o)→listed.size=ops.size→(∀j,j<ops.size→(listed.getD j true=false↔j∈L.map Prod.fst))→
  L.Pairwise (fun p q=>(B.getD q.1 0).testBit p.1=true∨Indep ops p.2 q.2)→
  (∀k,k<ops.size→listed.getD k true=true→∀j,(B.getD k 0).testBit j=true→listed.getD j true=true)→
  Mem b X→RelDs X s.tmps a.tmps.toList→X.H=s.heap→(∀p∈L,b.n≤p.2.nid)→
  runD P ops (L.map Prod.snd) s=some (s',ps)→(∀p∈ps,p)→
  (∀X' a',Mem b X'→RelDs X' s'.tmps a'.tmps.toList→X'.H=s'.heap→a'.defers=a.defers→Le X X'→Q .normal a' X'.w)→wpAny P .any ops Q n listed a X.w:=by
 intro n;induction n with
 |zero=>
  intro L listed X s s' ps a hn hsort hops hsz hkeys hind hdown M hT hH hnid h hps hQ;have hL:L=[]:=List.length_eq_zero_iff.1 hn;subst hL;simp only[List.map_nil,runD,sI,Prod.mk.injEq] at h;obtain⟨rfl,rfl⟩:=h;refine⟨?_,hQ X a M hT hH rfl (Le.refl X)⟩;rw[List.eq_nil_iff_forall_not_mem];intro i hi;obtain⟨h0,o,ho,_⟩:=mem_ready.1 hi;have:=(hkeys i (Array.getElem?_eq_some_iff.1 ho).1).1 h0;simp at this
 |succ n ih=>
  intro L listed X s s' ps a hn hsort hops hsz hkeys hind hdown M hT hH hnid h hps hQ;have hlistedOf:∀j,j<ops.size→j∉L.map Prod.fst→listed.getD j true=true:=by
   intro j hj hm;cases hv:listed.getD j true with
   |true=>rfl
   |false=>exact absurd ((hkeys j hj).1 hv) hm
  refine⟨?_,?_⟩
  ·intro hnone;exfalso;cases L with
   |nil=>simp at hn
   |cons p L=>
    obtain⟨i0,d0⟩:=p;have ho:=hops (i0,d0) List.mem_cons_self;have hi0:i0<ops.size:=(Array.getElem?_eq_some_iff.1 ho).1;have:i0∈Region.ready .any ops listed:=by
     rw[mem_ready];refine⟨(hkeys i0 hi0).2 (by simp),d0.o,ho,fun e he hb=> ?_⟩;have h1:=hB.back i0 _ e ho he hb;rw[getD_flip (by omega) false true];refine hlistedOf e.on (by omega) ?_;intro hm;obtain⟨q,hq,hqe⟩:=List.mem_map.1 hm;rcases List.mem_cons.1 hq with h2|h2
     ·subst h2;simp at hqe;omega
     ·have:=(List.pairwise_cons.1 hsort).1 q h2;simp at this;omega
    rw[hnone] at this;cases this
  ·intro i hi;obtain⟨h0,o,ho,hall⟩:=mem_ready.1 hi;have hisz:i<ops.size:=(Array.getElem?_eq_some_iff.1 ho).1;obtain⟨p,hp,hpi⟩:=List.mem_map.1 ((hkeys i hisz).1 h0);obtain⟨i',d⟩:=p;simp only at hpi;subst hpi;obtain⟨L1,L2,rfl⟩:=List.append_of_mem hp;have ho':=hops (i',d) hp;rw[ho] at ho';simp only[sI] at ho';have hbits:∀j,(B.getD i' 0).testBit j=true→listed.getD j true=true:=by
    intro j hj;obtain⟨e,h1,h2,h3⟩:=hB.bits i' o j ho hj;have h4:=hB.back i' o e ho h1 h2;have h5:=hall e h1 h2;rw[getD_flip (by omega) false true] at h5;rcases h3 with h3|h3
    ·rw[h3];exact h5
    ·exact hdown e.on (by omega) h5 j h3
   have hpw:=List.pairwise_append.1 hind;have hsw:=List.pairwise_append.1 hsort;have hI:∀x∈L1.map Prod.snd,Indep ops x d:=by
    intro x hx;obtain⟨q,hq,rfl⟩:=List.mem_map.1 hx;rcases hpw.2.2 q hq (i',d) List.mem_cons_self with h1|h1
    ·have h2:=hbits _ h1;have h3:=hops q (List.mem_append_left _ hq);have h4:=(hkeys q.1 (Array.getElem?_eq_some_iff.1 h3).1).2 (List.mem_map_of_mem (List.mem_append_left _ hq));rw[h2] at h4;cases h4
    ·exact h1
   rw[List.map_append,List.map_cons] at h;obtain⟨ps',h',hsub⟩:=runD_front _ hI h;simp only[runD] at h';split at h'
   ·rename_i s1 p1 hs;split at h'
    ·rename_i s2 p2 hr;simp only[sI,Prod.mk.injEq] at h';obtain⟨rfl,rfl⟩:=h';refine stepD_wp M hT hH (hnid _ hp) hs (fun p hp=>hps p (hsub p (List.mem_append_left _ hp))) (by rw[ho,ho']) ?_;intro X' a' M' hT' hH' hd' L';have hnotin:∀q∈L1++L2,q.1≠i':=by
      intro q hq e;rcases List.mem_append.1 hq with h1|h1
      ·have:=hsw.2.2 q h1 (i',d) List.mem_cons_self;simp at this;omega
      ·have:=(List.pairwise_cons.1 hsw.2.1).1 q h1;simp at this;omega
     refine ih (L1++L2) (listed.setIfInBounds i' true) ?_ ?_ ?_ (by simpa using hsz) ?_ ?_ ?_ M' hT' hH' ?_ (by rw[List.map_append];exact hr) (fun p hp=>hps p (hsub p (List.mem_append_right _ hp))) ?_
     ·simp at hn⊢;omega
     ·exact hsort.sublist ((List.sublist_cons_self _ _).append_left L1)
     ·intro q hq;exact hops q (mem_mid hq)
     ·intro j hj;rw[getD_put (by omega)];split
      ·rename_i e;subst e;simp only[Bool.true_eq_false,false_iff];intro hm;obtain⟨q,hq,hqe⟩:=List.mem_map.1 hm;exact hnotin q hq hqe
      ·rename_i e;rw[hkeys j hj];simp only[List.map_append,List.map_cons,List.mem_append,List.mem_cons];constructor
       ·rintro(h|h|h)
        ·exact .inl h
        ·exact absurd h.symm e
        ·exact .inr h
       ·rintro(h|h)
        ·exact .inl h
        ·exact .inr (.inr h)
     ·exact hind.sublist ((List.sublist_cons_self _ _).append_left L1)
     ·intro k hk hkl j hj;rw[getD_put (by omega)] at hkl⊢;split
      ·rfl
      ·split at hkl
       ·rename_i e;subst e;exact hbits j hj
       ·exact hdown k hk hkl j hj
     ·intro q hq;exact hnid q (mem_mid hq)
     ·intro X'' a'' M'' hT'' hH'' hd'' L'';exact hQ X'' a'' M'' hT'' hH'' (hd''.trans hd') (L'.trans L'')
    ·cases h'
   ·cases h'
end
theorem decs_get (sp:Sp) (asm:List (Nat×Bool)):∀(os:List Oper) (i nid k:Nat) {d:Dec},(decs sp asm i nid os)[k]? =some d→os[k]? =some d.o∧nid≤d.nid
 | [],_,_,_,_,h=>by simp[decs] at h
 |o::os,i,nid,0,d,h=>by
  simp only[decs,List.getElem?_cons_zero,sI] at h;subst h;exact⟨rfl,Nat.le_refl _⟩
 |o::os,i,nid,k+1,d,h=>by
  simp only[decs,List.getElem?_cons_succ] at h;obtain⟨h1,h2⟩:=decs_get sp asm os _ _ _ h;exact⟨by simpa using h1,by omega⟩
theorem decs_length (sp:Sp) (asm:List (Nat×Bool)):∀(os:List Oper) (i nid:Nat),(decs sp asm i nid os).length=os.length
 | [],_,_=>rfl
 |o::os,i,nid=>by simp[decs,decs_length sp asm os]
theorem decs_rng (sp:Sp) (asm:List (Nat×Bool)):∀(os:List Oper) (i nid:Nat) {j k:Nat} {x y:Dec},j<k→(decs sp asm i nid os)[j]? =some x→(decs sp asm i nid os)[k]? =some y→x.nid+x.cnt≤y.nid
 | [],_,_,_,_,_,_,_,h,_=>by simp[decs] at h
 |o::os,i,nid,0,k+1,x,y,hjk,hx,hy=>by
  simp only[decs,List.getElem?_cons_zero,sI,List.getElem?_cons_succ] at hx hy;subst hx;exact(decs_get sp asm os _ _ _ hy).2
 |o::os,i,nid,j+1,k+1,x,y,hjk,hx,hy=>by
  simp only[decs,List.getElem?_cons_succ] at hx hy;exact decs_rng sp asm os _ _ (by omega) hx hy
 |o::os,i,nid,_,0,x,y,hjk,hx,hy=>by omega
def guard1 (b:Array Nat) (W:List (List Nat)) (all:List (Nat×Dec)) (p:Nat×Dec):Dec:=
 {p.2 with
  forb:=all.flatMap fun(j,e)=>if j≠p.1&& !ordered b p.1 j then List.range' e.nid e.cnt++W.getD j [] else []
  wr:=all.all fun(j,e)=>j=p.1||ordered b p.1 j|| !heapy e.o
  ws:=W.getD p.1 []}
theorem guardDecs_map (b:Array Nat) (W:List (List Nat)) (all:List (Nat×Dec)):∀l,guardDecs b W all l=l.map (guard1 b W all)
 | []=>rfl
 |(i,d)::ds=>by
  simp only[guardDecs,List.map_cons,guardDecs_map b W all ds];rfl
theorem ordered_comm (b:Array Nat) (i j:Nat):ordered b i j=ordered b j i:=by unfold ordered;exact Bool.or_comm _ _
theorem numbered_get {l:List Dec} {k:Nat} {p:Nat×Dec}:(numbered l)[k]? =some p↔p.1=k∧l[k]? =some p.2:=by
 unfold numbered;rw[List.getElem?_zip_eq_some];constructor
 ·rintro⟨h1,h2⟩
  refine⟨?_,h2⟩;rw[List.getElem?_range (List.getElem?_eq_some_iff.1 h2).1] at h1;exact(Option.some.inj h1).symm
 ·rintro⟨h1,h2⟩
  refine⟨?_,h2⟩;rw[List.getElem?_range (List.getElem?_eq_some_iff.1 h2).1,h1]
theorem numbered_length (l:List Dec):(numbered l).length=l.length:=by simp[numbered]
theorem numbered_snd (l:List Dec):(numbered l).map Prod.snd=l:=List.map_snd_zip (by simp)
theorem numbered_fst (l:List Dec):(numbered l).map Prod.fst=List.range l.length:=List.map_fst_zip (by simp)
theorem guard_indep {ops:Array Oper} {W:List (List Nat)} {sp:Sp} {asm:List (Nat×Bool)} {n:Nat} {B:Array Nat} (hap:apartAll ops B=true) {i j:Nat} {x y:Dec} (hij:i<j)
  (hx:(decs sp asm 0 n ops.toList)[i]? =some x) (hy:(decs sp asm 0 n ops.toList)[j]? =some y) (ho:ordered B i j=false):
  Indep ops (guard1 B W (numbered (decs sp asm 0 n ops.toList)) (i,x)) (guard1 B W (numbered (decs sp asm 0 n ops.toList)) (j,y)):=by
 have hmx:(i,x)∈numbered (decs sp asm 0 n ops.toList):=List.mem_of_getElem? (numbered_get.2 ⟨rfl,hx⟩);have hmy:(j,y)∈numbered (decs sp asm 0 n ops.toList):=List.mem_of_getElem? (numbered_get.2 ⟨rfl,hy⟩);have ho':ordered B j i=false:=by rw[ordered_comm];exact ho
 obtain⟨gx,_⟩:=decs_get sp asm ops.toList 0 n i hx;obtain⟨gy,_⟩:=decs_get sp asm ops.toList 0 n j hy;rw[Array.getElem?_toList] at gx gy;have hj:j<ops.size:=(Array.getElem?_eq_some_iff.1 gy).1;have hr:=decs_rng sp asm _ _ _ hij hx hy;refine⟨?_,.inl hr,?_,?_,?_,?_,?_,?_⟩
 ·unfold apartAll at hap;have h1:=List.all_eq_true.1 (List.all_eq_true.1 hap j (List.mem_range.2 hj)) i (List.mem_range.2 hij);rw[ho,gx,gy] at h1;show x.o.apart ops y.o=true;simpa using h1
 ·intro k hk;show x.nid+k∈(numbered (decs sp asm 0 n ops.toList)).flatMap _;rw[List.mem_flatMap];refine⟨(i,x),hmx,?_⟩;have hne:i≠j:=by omega
  have hk':k<x.cnt:=hk;simp[hne,ho',List.mem_range'];exact .inl hk'
 ·intro k hk;show y.nid+k∈(numbered (decs sp asm 0 n ops.toList)).flatMap _;rw[List.mem_flatMap];refine⟨(j,y),hmy,?_⟩;have hne:j≠i:=by omega
  have hk':k<y.cnt:=hk;simp[hne,ho,List.mem_range'];exact .inl hk'
 ·intro h;have:=List.all_eq_true.1 (show(numbered (decs sp asm 0 n ops.toList)).all _=true from h) (j,y) hmy;have hne:j≠i:=by omega
  show heapy y.o=false;simpa [hne,ho] using this
 ·intro h;have:=List.all_eq_true.1 (show(numbered (decs sp asm 0 n ops.toList)).all _=true from h) (i,x) hmx;have hne:i≠j:=by omega
  show heapy x.o=false;simpa [hne,ho'] using this
 ·intro id hid;show id∈(numbered (decs sp asm 0 n ops.toList)).flatMap _;rw[List.mem_flatMap];refine⟨(i,x),hmx,?_⟩;have hne:i≠j:=by omega
  have hid':id∈W.getD i []:=hid;simp[hne,ho'] at hid'⊢;exact .inr hid'
 ·intro id hid;show id∈(numbered (decs sp asm 0 n ops.toList)).flatMap _;rw[List.mem_flatMap];refine⟨(j,y),hmy,?_⟩;have hne:j≠i:=by omega
  have hid':id∈W.getD j []:=hid;simp[hne,ho] at hid'⊢;exact .inr hid'
def Marks (b:Beg) (X:Ctx) (ds:List Deferred):Prop:=
 (∀k,b.S k→k<b.w.heap.size)∧∃Ds:List Nat,ds=Ds.map (fun D=>{target:= .collected D,args:= #[]})∧Ds.Nodup∧∀D∈Ds,b.w.heap.size≤D∧X.S D∧X.w.heap[D]? =some (.deferred (some []))
theorem Marks.le {b:Beg} {X Y:Ctx} {ds:List Deferred} (h:Marks b X ds) (hl:Le X Y):Marks b Y ds:=by
 obtain⟨h0,Ds,h1,h2,h3⟩:=h;refine⟨h0,Ds,h1,h2,fun D hD=> ?_⟩;obtain⟨a,c,d⟩:=h3 D hD;exact⟨a,(hl.st D c).1,by rw[(hl.st D c).2];exact d⟩
structure Rel (b:Beg) (X:Ctx) (s:St) (a:Act):Prop where
 mem:Mem b X
 tmps:RelDs X s.tmps a.tmps.toList
 heap:X.H=s.heap
 len:b.n≤s.heap.length
 defers:Marks b X a.defers
theorem slot_ext (H:Heap) (n id:Nat):slot (H++List.replicate n .free) id=slot H id:=by
 unfold slot;rw[gE,gE];rcases Nat.lt_or_ge id H.length with h|h
 ·rw[List.getElem?_append_left h]
 ·rw[List.getElem?_append_right h,List.getElem?_eq_none h,List.getElem?_replicate];split<;>rfl
theorem mem_ext {b:Beg} {X:Ctx} (M:Mem b X) (n:Nat):Mem b ⟨X.ρ,X.H++List.replicate n .free,X.S,X.w⟩∧Le X ⟨X.ρ,X.H++List.replicate n .free,X.S,X.w⟩:=by
 have hs:∀id,slot (X.H++List.replicate n Slot.free) id=slot X.H id:=slot_ext X.H n;have hg:∀id,hget (X.H++List.replicate n Slot.free) id=hget X.H id:=fun id=>by unfold hget;rw[hs]
 have hle:Le X ⟨X.ρ,X.H++List.replicate n .free,X.S,X.w⟩:=by
  refine⟨fun k hk=>⟨hk,rfl⟩,fun id=> ?_⟩;unfold Pair;show match slot X.H id,slot (X.H++List.replicate n Slot.free) id with
   | .free,_=>True
   |_,.free=>False
   |_,.dead=>True
   | .dead,.live _=>False
   | .live r,.live r'=>Comp r r'∧Ctx.pl ⟨X.ρ,X.H++List.replicate n .free,X.S,X.w⟩ id=X.pl id
  rw[hs];cases slot X.H id with
  |free=>trivial
  |dead=>trivial
  |live r=>exact⟨Comp.refl r,rfl⟩
 refine⟨⟨M.os,M.tape,M.output,M.size,?_,?_,?_,M.stab,M.keep,?_,?_,M.sub,M.sup,M.glob,fun id r p hr=>M.ok id r p (by rw[←hg];exact hr)⟩,hle⟩
 ·intro i j p q hi hj;exact M.inj i j p q (by rw[←hg];exact hi) (by rw[←hg];exact hj)
 ·intro id r hr;exact relRow_le hle (fun _ _ _ _=>rfl) (M.rows id r (by rw[←hg];exact hr))
 ·intro id p hid;exact M.sep id p (by rw[←hg];exact hid)
 ·intro id p hid;exact M.fresh id p (by rw[←hg];exact hid)
 ·intro id h hid;exact M.old id h (by rw[←hg];exact hid)
theorem stepD_length {P:Program} {ops:Array Oper} {d:Dec} {s s':St} {ps:List Prop} (h:stepD P ops d s=some (s',ps)):s'.heap.length=s.heap.length:=by
 rcases stepD_cases h with⟨_,e,_⟩|⟨_,E,_,_,e,_⟩
 ·rw[e]
 ·rw[e];simp only[setWrites_length,setAllocs_length]
theorem runD_length {P:Program} {ops:Array Oper}:∀(ds:List Dec) {s s':St} {ps:List Prop},runD P ops ds s=some (s',ps)→s'.heap.length=s.heap.length
 | [],s,s',ps,h=>by
  simp only[runD,sI,Prod.mk.injEq] at h;rw[h.1]
 |d::ds,s,s',ps,h=>by
  simp only[runD] at h;split at h
  ·rename_i s1 p1 hs;split at h
   ·rename_i s2 p2 hr;simp only[sI,Prod.mk.injEq] at h;rw[←h.1,runD_length ds hr,stepD_length hs]
   ·cases h
  ·cases h
theorem stepR_scope {P:Program} {b:Frame} {a:Act} {k:List Item} {cs:List Frame} {w:World} {c:Code}:step P (lone (b.atR a (.code (.scope c)::k)) cs w)= .next (lone (b.atR a (.code c:: .inScope c::k)) cs w):=
 step_lone_go (by simp[stepG,stepG.exec,Frame.atR])
theorem stepR_inScope {P:Program} {b:Frame} {a:Act} {k:List Item} {cs:List Frame} {w:World} {c:Code}:step P (lone (b.atR a (.inScope c::k)) cs w)= .next (lone (b.atR a k) cs w):=
 step_lone_go (by simp[stepG,stepG.exec,Frame.atR])
theorem not_defer {ops:Array Oper} (hnd:noDefer ops=true) {i:Nat} {o:Oper} (ho:ops[i]? =some o):∀c,o.op≠ .defer c:=by
 intro c hc;unfold noDefer at hnd;have:=List.all_eq_true.1 hnd o (by rw[←Array.getElem?_toList] at ho;exact List.mem_of_getElem? ho);rw[hc] at this;cases this
theorem ops_part {P:Program} {ops:Array Oper} (hnd:noDefer ops=true) {Q:Exit→Act→World→Prop} (hQ:∀e a w,Q e a w→e= .normal) (tail:List Nat) (l:List Nat):
  ∀(a:Act) (w:World),wpOps P ops Q l a w→∀(b:Frame) (k:List Item) (cs:List Frame),∃a' w',Q .normal a' w'∧Steps P (lone (b.atR a (.inRegion ops (l++tail)::k)) cs w) (lone (b.atR a' (.inRegion ops tail::k)) cs w'):=by
 induction l with
 |nil=>exact fun a w h b k cs=>⟨a,w,h,Steps.refl _ _⟩
 |cons i rest ih=>
  intro a w h b k cs;rw[List.cons_append];simp only[wpOps] at h;cases ho:ops[i]? with
  |none=>
   simp only[ho] at h;obtain⟨a',w',hq,harr⟩:=ih a w h b k cs;have hs:=stepR_op_skip (P:=P) (b:=b) (a:=a) (k:=k) (cs:=cs) (w:=w) (ops:=ops) (i:=i) (rest:=rest++tail) (by simp[ho]);simp only[ho,Option.bind_none,Act.put] at hs;exact⟨a',w',hq,.head hs harr⟩
  |some o=>
   simp only[ho] at h;by_cases hw:Region.wanted o (yielded ops a.tmps)=true
   ·simp only[hw,if_true] at h;rcases h with h|⟨_,a₀,w₀,hq⟩;case inr=>exact absurd (hQ _ _ _ hq) (by simp)
    simp only[Oper.wp,Oper.upon] at h;have hg:=stepGR_op (P:=P) (b:=b) (k:=k) (cs:=cs) (w:=w) (rest:=rest++tail) ho hw;rw[Oper.semAt_eq _ _ _ (not_defer hnd ho)] at hg;have hfin:∀v,(b.atR a (.inRegion ops (i::(rest++tail))::k)).finish v=b.atR (a.put o.dst v) (.inRegion ops (rest++tail)::k):=by
     intro v;rw[Frame.finish_atR,ho];rfl
    split at h
    ·rename_i v w' hr;obtain⟨a',w'',hq,harr⟩:=ih _ _ h b k cs;refine⟨a',w'',hq,.head (step_lone_go ?_) harr⟩;rw[hg,←hfin];simp[stepG.apply,hr]
    ·rename_i w' hr;obtain⟨a',w'',hq,harr⟩:=ih _ _ h b k cs;refine⟨a',w'',hq,.head (step_lone_go ?_) harr⟩;rw[hg,←hfin];simp[stepG.apply,hr]
    ·rename_i d w' hr;obtain⟨a',w'',hq,harr⟩:=ih _ _ h b k cs;refine⟨a',w'',hq,.head (step_lone_go ?_) harr⟩;have:({b.atR a (.inRegion ops (i::(rest++tail))::k) with defers:=d::a.defers}:Frame).finish undef=
       b.atR ({a with defers:=d::a.defers}.put o.dst undef) (.inRegion ops (rest++tail)::k):=by
      have:=Frame.finish_atR b {a with defers:=d::a.defers} ops i (rest++tail) k undef;rw[ho] at this;exact this
     rw[hg];simp only[stepG.apply,Sem.runT_eq,hr,GStep.bare_after];exact congrArg (fun fr=>GStep.go {frame:=fr,callers:=cs,status:= .running,dying:=none} w') this
    ·rename_i f args w' hr;obtain⟨e,w'',fr,hR,hsteps,_,hleave⟩:=h (b.atR a (.inRegion ops (i::(rest++tail))::k)::cs);have henter:step P (lone (b.atR a (.inRegion ops (i::(rest++tail))::k)) cs w)=
       .next (lone (Frame.enter P f args .normal) (b.atR a (.inRegion ops (i::(rest++tail))::k)::cs) w'):=
      step_lone_go (by rw[hg];simp[stepG.apply,hr,Frame.atR])
     cases e with
     |returned v=>
      obtain⟨a',w₃,hq,harr⟩:=ih _ _ hR b k cs;refine⟨a',w₃,hq,.head henter (Steps.trans hsteps (.head ?_ harr))⟩;rw[←hfin];exact step_leave_returned hleave
     |panicked chain=>exact absurd (hQ _ _ _ hR) (by simp)
     |outgrown=>
      obtain⟨a₀,w₀,hq⟩:=hR;exact absurd (hQ _ _ _ hq) (by simp)
    ·rename_i row args w' hr;obtain⟨v,w'',hR,hsteps⟩:=h (b.atR a (.inRegion ops (i::(rest++tail))::k)) cs;have henter:step P (lone (b.atR a (.inRegion ops (i::(rest++tail))::k)) cs w)=
       .next (lone (Frame.ofRow P row args .normal) (b.atR a (.inRegion ops (i::(rest++tail))::k)::cs) w'):=
      step_lone_go (by rw[hg];simp[stepG.apply,hr,Frame.atR])
     obtain⟨a',w₃,hq,harr⟩:=ih _ _ hR b k cs;refine⟨a',w₃,hq,.head henter (Steps.trans hsteps ?_)⟩;rw[hfin];exact harr
    ·rename_i v w' hr;exact absurd (hQ _ _ _ h) (by simp)
    ·exact h.elim
   ·simp only[hw,if_false,Bool.false_eq_true] at h;obtain⟨a',w',hq,harr⟩:=ih _ _ h b k cs;have hs:=stepR_op_skip (P:=P) (b:=b) (a:=a) (k:=k) (cs:=cs) (w:=w) (ops:=ops) (i:=i) (rest:=rest++tail)
     (by simp[ho];simpa using hw)
    simp only[ho,Option.bind_some] at hs;exact⟨a',w',hq,.head hs harr⟩
theorem ops_steps {P:Program} {ops:Array Oper} (hnd:noDefer ops=true) {Q:Exit→Act→World→Prop} (hQ:∀e a w,Q e a w→e= .normal) (l:List Nat)
  (a:Act) (w:World) (h:wpOps P ops Q l a w) (b:Frame) (k:List Item) (cs:List Frame):∃a' w',Q .normal a' w'∧Steps P (lone (b.atR a (.inRegion ops l::k)) cs w) (lone (b.atR a' k) cs w'):=by
 obtain⟨a',w',h1,h2⟩:=ops_part hnd hQ [] l a w h b k cs;rw[List.append_nil] at h2;exact⟨a',w',h1,Steps.trans h2 (.one stepR_region_end)⟩
theorem run_region {P:Program} {b:Beg} {sp:Sp} {asm:List (Nat×Bool)} {ops:Array Oper} {draw:Bool} {s s':St} {ps:List Prop} {X:Ctx} {a:Act} (R:Rel b X s a) (hm:P.follows .mixedOrders=true)
  (h:runR P sp asm ops draw s=some (s',ps)) (hps:∀p∈ps,p) (id:Nat) (fr:Frame) (k:List Item) (cs:List Frame):
  ∃X' a',a'.defers=a.defers∧Rel b X' s' a'∧Steps P (lone (fr.atR a (.code (.region id ops draw)::k)) cs X.w) (lone (fr.atR a' k) cs X'.w):=by
 unfold runR at h;simp only at h;split at h
 case isFalse=>cases h
 rename_i hnd;let Q:Exit→Act→World→Prop:=fun e a' w'=>e= .normal∧a'.defers=a.defers∧∃X',X'.w=w'∧Rel b X' s' a'
 have hQ:∀X' a',a'.defers=a.defers→Rel b X' s' a'→Q .normal a' X'.w:=fun X' a' hd R'=>⟨rfl,hd,X',rfl,R'⟩;have hQ1:∀e a w,Q e a w→e= .normal:=fun e a w h=>h.1;generalize ht:total sp ops.toList=n at h
 obtain⟨M1,L1⟩:=mem_ext R.mem n;have hlen:b.n≤(s.heap++List.replicate n Slot.free).length:=by
  have:=R.len;simp;omega
 split at h
 ·rename_i hd;subst hd;split at h
  ·rename_i hg;rw[Bool.and_eq_true] at hg;have hB:=orderOk hg.2;suffices hw:wpAny P .any ops Q ops.size (Array.replicate ops.size false) a {X.w with drawn:=X.w.drawn+1} by
    have hs:=stepR_region_draw (P:=P) (b:=fr) (a:=a) (k:=k) (cs:=cs) (w:=X.w) (ops:=ops) (id:=id);simp only[Region.schedule,hm,Bool.true_or,if_true] at hs;obtain⟨a',w',⟨_,hd,X',rfl,R'⟩,h2⟩:=ops_steps hnd hQ1 _ _ _ (wpAny_sound ops.size (X.w.tape X.w.drawn (.order fr.fn id)) _ a _ hw) fr k cs;exact⟨X',a',hd,R',.head hs h2⟩
   obtain⟨M2,L2⟩:=mem_drew M1 _ rfl;have hdecs:decsDraw (wsOf P sp ops s) sp asm s.heap.length ops=((numbered (decs sp asm 0 s.heap.length ops.toList)).map (guard1 (Region.before ops) (wsOf P sp ops s) (numbered (decs sp asm 0 s.heap.length ops.toList)))):=by
    unfold decsDraw;simp only;rw[guardDecs_map]
   have hget:∀k p,(numbered (decsDraw (wsOf P sp ops s) sp asm s.heap.length ops))[k]? =some p→∃d,(decs sp asm 0 s.heap.length ops.toList)[k]? =some d∧p=(k,guard1 (Region.before ops) (wsOf P sp ops s) (numbered (decs sp asm 0 s.heap.length ops.toList)) (k,d)):=by
    intro k p hk;obtain⟨h1,h2⟩:=numbered_get.1 hk;rw[hdecs,List.getElem?_map,Option.map_eq_some_iff] at h2;obtain⟨q,h3,h4⟩:=h2;obtain⟨h5,h6⟩:=numbered_get.1 h3;obtain⟨q1,q2⟩:=q;simp only at h5 h6;subst h5;exact⟨q2,h6,Prod.ext h1 h4.symm⟩
   have hlen2:(decsDraw (wsOf P sp ops s) sp asm s.heap.length ops).length=ops.size:=by
    rw[hdecs,List.length_map,numbered_length,decs_length];simp
   have hX:(⟨X.ρ,X.H++List.replicate n Slot.free,X.S,X.w⟩:Ctx).w.drew={X.w with drawn:=X.w.drawn+1}:=rfl;rw[←hX];refine any_sound (b:=b) (X:=⟨X.ρ,X.H++List.replicate n Slot.free,X.S,X.w.drew⟩) hB ops.size (numbered (decsDraw (wsOf P sp ops s) sp asm s.heap.length ops)) _ (s:=⟨s.tmps,s.heap++List.replicate n .free⟩)
    (by rw[numbered_length,hlen2]) ?_ ?_ (by simp) ?_ ?_ ?_ M2 (L2.ds (L1.ds R.tmps)) (by show X.H++_=_;rw[R.heap]) ?_ (by rw[numbered_snd];exact h) hps ?_
   ·rw[List.pairwise_iff_getElem];intro i j hi hj hij;have h1:=(numbered_get.1 (gQ hi)).1;have h2:=(numbered_get.1 (gQ hj)).1;rw[h1,h2];exact hij
   ·intro p hp;obtain⟨k,hk⟩:=List.getElem?_of_mem hp;obtain⟨d,h1,h2⟩:=hget k p hk;subst h2;have:=(decs_get sp asm ops.toList 0 _ k h1).1;rw[Array.getElem?_toList] at this;exact this
   ·intro j hj;rw[numbered_fst,hlen2];simp[hj,List.mem_range]
   ·rw[List.pairwise_iff_getElem];intro i j hi hj hij;obtain⟨x,g1,g2⟩:=hget i _ (gQ hi);obtain⟨y,g3,g4⟩:=hget j _ (gQ hj);rw[g2,g4];cases ho:ordered (Region.before ops) i j with
    |false=>exact .inr (guard_indep hg.1 hij g1 g3 ho)
    |true=>
     left
     unfold ordered at ho;rw[Bool.or_eq_true] at ho;rcases ho with ho|ho
     ·exact ho
     ·have h1:=(decs_get sp asm ops.toList 0 _ i g1).1;rw[Array.getElem?_toList] at h1;have:=bits_lt hB i i (Nat.le_refl _) _ j h1 ho;omega
   ·intro k hk hkl;rw[Array.getD_eq_getD_getElem?,Array.getElem?_replicate] at hkl;simp[hk] at hkl
   ·intro p hp;obtain⟨k,hk⟩:=List.getElem?_of_mem hp;obtain⟨d,h1,h2⟩:=hget k p hk;subst h2;exact Nat.le_trans R.len (decs_get sp asm ops.toList 0 _ k h1).2
   ·intro X' a' M' hT' hH' hd' L';exact hQ X' a' hd' ⟨M',hT',hH',by rw[runD_length _ h];exact hlen,by rw[hd'];exact(R.defers.le (L1.trans L2)).le L'⟩
  ·cases h
 ·rename_i hd;have hd':draw=false:=by simpa using hd
  subst hd';suffices hw:wpOps P ops Q (List.range ops.size) a X.w by
   obtain⟨a',w',⟨_,hd,X',rfl,R'⟩,h2⟩:=ops_steps hnd hQ1 _ _ _ hw fr k cs;exact⟨X',a',hd,R',.head stepR_region h2⟩
  refine runD_wp (X:=⟨X.ρ,X.H++List.replicate n Slot.free,X.S,X.w⟩) _ _ (s:=⟨s.tmps,s.heap++List.replicate n .free⟩) M1 (L1.ds R.tmps) (by show X.H++_=_;rw[R.heap]) ?_ h hps ?_ ?_
  ·intro d hd;obtain⟨k,hk⟩:=List.getElem?_of_mem hd;exact Nat.le_trans R.len (decs_get sp asm ops.toList 0 _ k hk).2
  ·apply List.ext_getElem?;intro k;rw[List.getElem?_map,List.getElem?_map];rcases Nat.lt_or_ge k ops.size with hk|hk
   ·rw[List.getElem?_range hk];have hk2:k< (decs sp asm 0 s.heap.length ops.toList).length:=by rw[decs_length];simpa using hk
    have h1:=(decs_get sp asm ops.toList 0 _ k (gQ hk2)).1;rw[Array.getElem?_toList] at h1;rw[gQ hk2];simp only[Option.map_some,h1]
   ·rw[List.getElem?_eq_none (by simpa using hk),List.getElem?_eq_none (by rw[decs_length];simpa using hk)]
    rfl
  ·intro X' a' M' hT' hH' hd' L';exact hQ X' a' hd' ⟨M',hT',hH',by rw[runD_length _ h];exact hlen,by rw[hd'];exact(R.defers.le L1).le L'⟩
mutual
def refsD:D→List Nat
 | .own id _ _ _| .ptr id _ _| .bsl id _ _=> [id]
 | .rptr cs| .agg cs| .fn _ cs| .tup cs=>refsDs cs
 |_=> []
def refsDs:List D→List Nat
 | []=> []
 |d::ds=>refsD d++refsDs ds
end
def refsRow:Row→List Nat
 | .box _ cs=>refsDs cs
 | .nest _ _ (some (_,d))=>refsD d
 |_=> []
def addNew:List Nat→List Nat→List Nat
 |l,[]=>l
 |l,a::as=>if l.contains a then addNew l as else addNew (l++[a]) as
def refsOf (H:Heap):List Nat→List Nat
 | []=> []
 |id::ids=>(match hget H id with|some r=>refsRow r|none=> [])++refsOf H ids
def gcIds (n:Nat) (H:Heap) (ds:List D):List Nat:=
 let l:=addNew (List.range n) (refsDs ds)
 let l:=addNew l (refsOf H l)
 addNew l (refsOf H l)
def pos:List Nat→Nat→Nat
 | [],_=>0
 |a::l,id=>if a=id then 0 else pos l id+1
def inB (ids:List Nat) (l:List Nat):Bool:=l.all fun i=>ids.contains i
def renSlot (f:Nat→Nat):Slot→Slot
 | .live r=> .live (renRow f r)
 |s=>s
def slotIn (ids:List Nat):Slot→Bool
 | .live r=>inB ids (refsRow r)
 |_=>true
def packH (ids:List Nat) (H:Heap):Heap:=ids.map fun id=>renSlot (pos ids) (slot H id)
def packOk (n:Nat) (ids:List Nat) (H:Heap) (ds:List D):Bool:=
 nodupB ids&&(ids.take n==List.range n)&&decide (n≤ids.length)&&inB ids (refsDs ds)&&ids.all (fun id=>slotIn ids (slot H id))
theorem pos_get:∀{ids:List Nat} {id:Nat},id∈ids→pos ids id<ids.length∧ids.getD (pos ids id) 0=id
 | [],id,h=>by simp at h
 |a::l,id,h=>by
  simp only[pos];split
  ·rename_i e;simp[e]
  ·rename_i e;rcases List.mem_cons.1 h with h|h
   ·exact absurd h.symm e
   ·obtain⟨h1,h2⟩:=pos_get h;simp only[List.length_cons,Nat.add_lt_add_iff_right,h1,List.getD_cons_succ,h2,and_self]
mutual
theorem renD_back {ids:List Nat} {f:Nat→Nat} (hf:∀k,k<ids.length→f k=ids.getD k 0):∀d:D,inB ids (refsD d)=true→renD f (renD (pos ids) d)=d
 | .v _,_| .sl _ _ _ _,_| .arr _ _,_| .lenv _,_| .top,_=>rfl
 | .own id off len cap,h=>by
  have hm:id∈ids:=by simpa [inB,refsD] using h
  obtain⟨h1,h2⟩:=pos_get hm;simp only[renD,hf _ h1,h2]
 | .ptr id i off,h=>by
  have hm:id∈ids:=by simpa [inB,refsD] using h
  obtain⟨h1,h2⟩:=pos_get hm;simp only[renD,hf _ h1,h2]
 | .bsl id len sz,h=>by
  have hm:id∈ids:=by simpa [inB,refsD] using h
  obtain⟨h1,h2⟩:=pos_get hm;simp only[renD,hf _ h1,h2]
 | .rptr cs,h=>by simp only[renD,renDs_back hf cs (by simpa only[refsD] using h)]
 | .agg cs,h=>by simp only[renD,renDs_back hf cs (by simpa only[refsD] using h)]
 | .fn _ cs,h=>by simp only[renD,renDs_back hf cs (by simpa only[refsD] using h)]
 | .tup cs,h=>by simp only[renD,renDs_back hf cs (by simpa only[refsD] using h)]
theorem renDs_back {ids:List Nat} {f:Nat→Nat} (hf:∀k,k<ids.length→f k=ids.getD k 0):∀ds:List D,inB ids (refsDs ds)=true→renDs f (renDs (pos ids) ds)=ds
 | [],_=>rfl
 |d::ds,h=>by
  simp only[refsDs,inB,List.all_append,Bool.and_eq_true] at h;simp only[renDs,renD_back hf d h.1,renDs_back hf ds h.2]
end
theorem slot_pack (ids:List Nat) (H:Heap) {k:Nat} (hk:k<ids.length):slot (packH ids H) k=renSlot (pos ids) (slot H (ids.getD k 0)):=by
 unfold packH;rw[slot,gE,List.getElem?_map,gQ hk];simp[gE,gQ hk]
section
variable {b:Beg} {X:Ctx}
def packX (X:Ctx) (ids:List Nat):Ctx:=⟨fun k=>X.ρ (ids.getD k 0),packH ids X.H,X.S,X.w⟩
theorem pack_pair (ids:List Nat):∀k,Pair X (packX X ids) (if k<ids.length then ids.getD k 0 else X.H.length) k:=by
 intro k;by_cases hk:k<ids.length
 ·rw[if_pos hk];unfold Pair;rw[show slot (packX X ids).H k=_ from slot_pack ids X.H hk];cases slot X.H (ids.getD k 0) with
  |free=>trivial
  |dead=>trivial
  |live r=>
   simp only[renSlot];exact⟨comp_self_ren _ _,rfl⟩
 ·rw[if_neg hk];have:slot X.H X.H.length= .free:=by simp[slot]
  unfold Pair;rw[this];trivial
theorem pack_rel (ids:List Nat) {d:D} (hd:inB ids (refsD d)=true) {u:Value} (h:RelD X d u):RelD (packX X ids) (renD (pos ids) d) u:=by
 have:=relD_pair (h:=fun i=>i) (pack_pair (X:=X) ids) (renD (pos ids) d) u (.inl fun k hk=>⟨hk,rfl⟩) (by
  rw[renD_back (f:=fun k=>if k<ids.length then ids.getD k 0 else X.H.length) (fun k hk=>if_pos hk) d hd];exact h)
 rwa [renD_id] at this
theorem pack_rels (ids:List Nat) {ds:List D} (hd:inB ids (refsDs ds)=true) {us:List Value} (h:RelDs X ds us):RelDs (packX X ids) (renDs (pos ids) ds) us:=by
 have:=relDs_pair (h:=fun i=>i) (pack_pair (X:=X) ids) (renDs (pos ids) ds) us (.inl fun k hk=>⟨hk,rfl⟩) (by
  rw[renDs_back (f:=fun k=>if k<ids.length then ids.getD k 0 else X.H.length) (fun k hk=>if_pos hk) ds hd];exact h)
 rwa [renDs_id] at this
theorem pack_get (ids:List Nat) {k:Nat} {r:Row} (h:hget (packH ids X.H) k=some r):k<ids.length∧∃r0,hget X.H (ids.getD k 0)=some r0∧r=renRow (pos ids) r0:=by
 have hs:=hget_live.1 h;have hk:k<ids.length:=by
  have:=lt_of_slot (by rw[hs];simp:slot (packH ids X.H) k≠ .free);simpa [packH] using this
 refine⟨hk,?_⟩;rw[slot_pack ids X.H hk] at hs;cases hr:slot X.H (ids.getD k 0) with
 |free=>rw[hr] at hs;cases hs
 |dead=>rw[hr] at hs;cases hs
 |live r0=>
  rw[hr] at hs;simp only[renSlot,Slot.live.injEq] at hs;exact⟨r0,hget_live.2 hr,hs.symm⟩
theorem mem_pack (M:Mem b X) {n:Nat} (hn:b.n=n) {ids:List Nat} {ds:List D} (h:packOk n ids X.H ds=true):Mem b (packX X ids):=by
 unfold packOk at h;simp only[Bool.and_eq_true,decide_eq_true_eq,beq_iff_eq] at h;obtain⟨⟨⟨⟨h1,h2⟩,h3⟩,h4⟩,h5⟩:=h;have hnd:=nodupB_iff.1 h1;have hg:∀{k},hget (packX X ids).H k≠none→k<ids.length∧hget X.H (ids.getD k 0)≠none:=by
  intro k hk;cases hr:hget (packX X ids).H k with
  |none=>exact absurd hr hk
  |some r=>
   obtain⟨g1,r0,g2,_⟩:=pack_get ids hr;exact⟨g1,by rw[g2];simp⟩
 refine⟨M.os,M.tape,M.output,M.size,?_,?_,?_,M.stab,M.keep,?_,?_,M.sub,M.sup,M.glob,?_⟩
 ·intro i j p q hi hj hp hq k hkp hkq;exact getD_inj hnd (hg hi).1 (hg hj).1 (M.inj _ _ p q (hg hi).2 (hg hj).2 hp hq k hkp hkq)
 ·intro id r hr;obtain⟨g1,r0,g2,rfl⟩:=pack_get ids hr;have hrow:=M.rows _ _ g2;have hin:inB ids (refsRow r0)=true:=by
   have:=List.all_eq_true.1 h5 _ (getD_mem g1);rw[hget_live.1 g2] at this;exact this
  show RelRow (packX X ids) _ (X.ρ (ids.getD id 0));cases r0 with
  |nest kk xs hh=>
   refine relRow_nest (X:=X) (Y:=packX X ids) (fun k hk=>⟨hk,rfl⟩) (fun _ _ _ _=>rfl) ?_ hrow;cases hh with
   |none=>trivial
   |some q=>
    obtain⟨i,d⟩:=q;exact⟨rfl,fun v hv=>pack_rel ids (by simpa [refsRow] using hin) hv⟩
  |data e t xs=>exact hrow
  |box bt dd=>
   cases hρ:X.ρ (ids.getD id 0) with
   |none=>rw[hρ] at hrow;exact hrow
   |some l=>
    rw[hρ] at hrow;obtain⟨cs,ty,e1,e2,e3⟩:=hrow;refine⟨cs,ty,e1,e2,?_⟩;obtain⟨e4,us,e5,e6,e7⟩:=e3;exact⟨e4,us,e5,pack_rels ids (by simpa [refsRow] using hin) e6,e7⟩
 ·intro id p hid hp;exact M.sep _ p (hg hid).2 hp
 ·intro id p hid hp;exact M.fresh _ p (hg hid).2 hp
 ·intro id hid hlv;have hid':id<n:=by omega
  have hk:ids.getD id 0=id:=by
   have h6:(ids.take n)[id]? =some id:=by rw[h2,List.getElem?_range hid']
   rw[List.getElem?_take,if_pos hid'] at h6;rw[gE,h6];rfl
  show(X.ρ (ids.getD id 0)).map Loc.toPl=(b.ρ id).map Loc.toPl;rw[hk];have:=(hg hlv).2;rw[hk] at this;exact M.old id hid this
 ·intro id r p hr hp;obtain⟨g1,r0,g2,rfl⟩:=pack_get ids hr;exact okLoc_ren (M.ok _ r0 p g2 hp)
end
def resD (P:Program) (H:Heap) (tmps:List D):ResultVar→Option D
 | .tmp t=>some (tmps.getD t .top)
 | .cell a t=>match sizeB P t with
  |some s=>match tmps.getD a .top with
   | .ptr id _ off=>match hget H id with
    |some (.box _ cs)=>if off+s≤cs.length then valD P t ((cs.drop off).take s) else none
    |_=>none
   |_=>none
  |none=>none
def resDs (P:Program) (H:Heap) (tmps:List D):List ResultVar→Option (List D)
 | []=>some []
 |r::rs=>match resD P H tmps r,resDs P H tmps rs with
  |some d,some ds=>some (d::ds)
  |_,_=>none
def frzD (rd:Nat→Option Row):Option Ty→D→Option (D×List Nat)
 |none,d=>some (d,[])
 |some t,d=>match cellsOf d with
  |some cs=>match t.ofCells rd cs with
   |some x=>match d with
    | .agg _=>some (.agg (t.cells x),killIds cs)
    |_=>match t.cells x with
     | [y]=>some (y,killIds cs)
     |_=>none
   |none=>none
  |none=>none
def frzDs (rd:Nat→Option Row):List (Option Ty)→List D→Option (List D×List Nat)
 | [],[]=>some ([],[])
 |h::hs,d::ds=>match frzD rd h d,frzDs rd hs ds with
  |some (d',k),some (ds',ks)=>some (d'::ds',k++ks)
  |_,_=>none
 |_,_=>none
def retD:List D→D
 | [d]=>d
 |ds=> .tup ds
def rowsOf:List Slot→Option (List Row)
 | []=>some []
 | .live r::l=>(rowsOf l).map (r::·)
 |_::_=>none
def optsOf:List Slot→Option (List (Option Row))
 | []=>some []
 | .live r::l=>(optsOf l).map (some r::·)
 | .dead::l=>(optsOf l).map (none::·)
 | .free::_=>none
def finS (P:Program) (rs:List ResultVar) (n:Nat) (how:List (Option Ty)) (s:St):Option (D×List (Option Row)×List Row):=
 match resDs P s.heap s.tmps rs with
 |some ds=>match frzDs (hget s.heap) how ds with
  |some (ds',ks)=>
   let H:=setWrites s.heap (ks.map fun i=>(i,none))
   let ids:=gcIds n H ds'
   if nodupB ks&&packOk n ids H ds' then
    match optsOf ((packH ids H).take n),rowsOf ((packH ids H).drop n) with
    |some post,some allocs=>some (retD (renDs (pos ids) ds'),post,allocs)
    |_,_=>none
   else none
  |none=>none
 |none=>none
section
variable {P:Program} {b:Beg} {X:Ctx}
theorem frzD_live (M:Mem b X) {h:Option Ty} {d d':D} {ks:List Nat} {u:Value} (hf:frzD (hget X.H) h d=some (d',ks)) (hr:RelD X d u):∀id∈ks,hget X.H id≠none:=by
 cases h with
 |none=>
  simp only[frzD,sI,Prod.mk.injEq] at hf;rw[←hf.2];simp
 |some t=>
  simp only[frzD] at hf;split at hf
  ·rename_i cs hcs;obtain⟨h1,h2⟩:=cellsOf_rel hcs hr;split at hf
   ·rename_i x hx;have:=(ofCells_rel (S':=fun _=>True) M (fun _ _=>trivial) (hget X.H) (fun _ _ h=>h) t cs x _ hx h1 (fun _ _ _ _ _ _=>trivial)).2.1;split at hf
    ·simp only[sI,Prod.mk.injEq] at hf;rw[←hf.2];exact this
    ·split at hf
     ·simp only[sI,Prod.mk.injEq] at hf;rw[←hf.2];exact this
     ·cases hf
   ·cases hf
  ·cases hf
theorem frzDs_live (M:Mem b X):∀{hs:List (Option Ty)} {ds ds':List D} {ks:List Nat} {us:List Value},frzDs (hget X.H) hs ds=some (ds',ks)→RelDs X ds us→∀id∈ks,hget X.H id≠none
 | [],[],_,_,_,h,_=>by simp only[frzDs,sI,Prod.mk.injEq] at h;rw[←h.2];simp
 | [],_::_,_,_,_,h,_=>by simp[frzDs] at h
 |_::_,[],_,_,_,h,_=>by simp[frzDs] at h
 |h0::hs,d::ds,ds',ks,us,h,hr=>by
  simp only[frzDs] at h;split at h
  ·rename_i d1 k1 ds1 ks1 e1 e2;simp only[sI,Prod.mk.injEq] at h;simp only[RelDs] at hr;obtain⟨u,us',rfl,r1,r2⟩:=hr;rw[←h.2];intro id hid;rcases List.mem_append.1 hid with h|h
   ·exact frzD_live M e1 r1 id h
   ·exact frzDs_live M e2 r2 id h
  ·cases h
theorem frzD_rel (M:Mem b X) {Y:Ctx} (hle:Le X Y) (hw:Y.w=X.w) (hS:∀k,X.S k→Y.S k) {h:Option Ty} {d d':D} {ks:List Nat} {u:Value} (hf:frzD (hget X.H) h d=some (d',ks)) (hks:∀id∈ks,∀l,X.ρ id=some l→∀k∈l.bs,Y.S k)
  (hr:RelD X d u):RelD Y d' u:=by
 cases h with
 |none=>
  simp only[frzD,sI,Prod.mk.injEq] at hf;rw[←hf.1];exact hle.d hr
 |some t=>
  simp only[frzD] at hf;split at hf
  ·rename_i cs hcs;obtain⟨h1,h2⟩:=cellsOf_rel hcs hr;split at hf
   ·rename_i x hx;split at hf
    ·rename_i cs0;simp only[sI,Prod.mk.injEq] at hf;obtain⟨rfl,rfl⟩:=hf;have hE:=(ofCells_rel (S':=Y.S) M hS (hget X.H) (fun _ _ h=>h) t cs x _ hx h1 hks).1;rw[←hw] at hE;simp only[RelD] at hr⊢;obtain⟨us,e,_⟩:=hr;subst e;exact⟨us,rfl,by simpa [Value.cells] using relE_cells Y t x _ hE⟩
    ·rename_i hne;split at hf
     ·rename_i y hy;simp only[sI,Prod.mk.injEq] at hf;obtain⟨rfl,rfl⟩:=hf;have hE:=(ofCells_rel (S':=Y.S) M hS (hget X.H) (fun _ _ h=>h) t cs x _ hx h1 hks).1;rw[←hw] at hE;have hR:=relE_cells Y t x _ hE;rw[hy] at hR;obtain⟨v,hv,hv2⟩:=relDs_one.1 hR;have hu:u.cells= #[u]:=by
       unfold cellsOf at hcs;split at hcs
       ·rename_i cs1;exact absurd rfl (hne cs1)
       ·split at hcs
        ·rename_i hc;exact(cell_one hc hr).2
        ·cases hcs
      rw[hu] at hv;simp only[List.cons.injEq,and_true] at hv;rw[hv];exact hv2
     ·cases hf
   ·cases hf
  ·cases hf
theorem frzDs_rel (M:Mem b X) {Y:Ctx} (hle:Le X Y) (hw:Y.w=X.w) (hS:∀k,X.S k→Y.S k):∀{hs:List (Option Ty)} {ds ds':List D} {ks:List Nat} {us:List Value},frzDs (hget X.H) hs ds=some (ds',ks)→
  (∀id∈ks,∀l,X.ρ id=some l→∀k∈l.bs,Y.S k)→RelDs X ds us→RelDs Y ds' us
 | [],[],_,_,_,h,_,hr=>by simp only[frzDs,sI,Prod.mk.injEq] at h;rw[←h.1];exact hr
 | [],_::_,_,_,_,h,_,_=>by simp[frzDs] at h
 |_::_,[],_,_,_,h,_,_=>by simp[frzDs] at h
 |h0::hs,d::ds,ds',ks,us,h,hks,hr=>by
  simp only[frzDs] at h;split at h
  ·rename_i d1 k1 ds1 ks1 e1 e2;simp only[sI,Prod.mk.injEq] at h;simp only[RelDs] at hr;obtain⟨u,us',rfl,r1,r2⟩:=hr;rw[←h.1];rw[←h.2] at hks;simp only[RelDs];exact⟨u,us',rfl,frzD_rel M hle hw hS e1 (fun id hid=>hks id (List.mem_append_left _ hid)) r1,frzDs_rel M hle hw hS e2 (fun id hid=>hks id (List.mem_append_right _ hid)) r2⟩
  ·cases h
def resOne (tmps:Array Value):ResultVar→Sem Value
 | .tmp t=>pure (tmps.getD t undef)
 | .cell a t=>do loadVar t (←asAddr (tmps.getD a undef))
theorem resD_rel (M:Mem b X) {tmps:List D} {a:Act} (hT:RelDs X tmps a.tmps.toList) {r:ResultVar} {d:D} (h:resD P X.H tmps r=some d):
  ∃v,(resOne a.tmps r).run P X.w= .ok v X.w∧RelD X d v:=by
 have hev:∀t,RelD X (tmps.getD t .top) (a.tmps.getD t undef):=fun t=>evalD_rel M hT (.tmp t);cases r with
 |tmp t=>
  simp only[resD,sI] at h;subst h;exact⟨_,by simp[resOne],hev t⟩
 |cell at' t=>
  simp only[resD] at h;split at h
  ·rename_i s hs;obtain⟨i,hi,hu,rfl⟩:=sizeB_some hs;have he:=hev at';split at h
   ·rename_i id j off hd;rw[hd] at he;split at h
    ·rename_i bt cs hr;split at h
     ·rename_i hfit;obtain⟨v,h1,h2⟩:=s_load_box (P:=P) M hi hu he hr hfit h;obtain⟨l,_,_,_,e,_⟩:=ptr_cells M he hr;refine⟨v,?_,h2⟩;rw[e] at h1;simp only[resOne,e];simpa [Instr.loadAt,Instr.sureAddr,asAddr] using h1
     ·cases h
    ·cases h
   ·cases h
  ·cases h
theorem resDs_rel (M:Mem b X) {tmps:List D} {a:Act} (hT:RelDs X tmps a.tmps.toList):∀{rs:List ResultVar} {ds:List D},resDs P X.H tmps rs=some ds→
  ∃vs,(rs.mapM (resOne a.tmps)).run P X.w= .ok vs X.w∧RelDs X ds vs
 | [],ds,h=>by
  simp only[resDs,sI] at h;subst h;exact⟨[],by simp,by simp only[RelDs]⟩
 |r::rs,ds,h=>by
  simp only[resDs] at h;split at h
  ·rename_i d ds' h1 h2;simp only[sI] at h;subst h;obtain⟨v,e1,r1⟩:=resD_rel M hT h1;obtain⟨vs,e2,r2⟩:=resDs_rel M hT h2;refine⟨v::vs,?_,by simp only[RelDs];exact⟨v,vs,rfl,r1,r2⟩⟩;simp[List.mapM_cons,e1,e2]
  ·cases h
def retV:List Value→Value
 | [v]=>v
 |vs=> .tuple vs.toArray
theorem results_run {fn:Func} {tmps:Array Value} {w:World} {vs:List Value} (h:(fn.results.toList.mapM (resOne tmps)).run P w= .ok vs w):
  (results fn tmps).run P w= .ok (retV vs) w:=by
 have e:results fn tmps=(do
   let vs←fn.results.mapM (resOne tmps)
   pure (if h:vs.size=1 then vs[0] else .tuple vs):Sem Value):=by
  unfold results;congr 1
 rw[e,Array.mapM_eq_mapM_toList];simp only[Sem.run_bind,map_eq_pure_bind];simp only[bind_assoc,pure_bind,Sem.run_bind,h];match vs with
 | []=>simp[retV]
 | [v]=>simp[retV]
 |_::_::_=>simp[retV]
theorem rowsOf_some:∀{l:List Slot} {rs:List Row},rowsOf l=some rs→l=rs.map .live
 | [],rs,h=>by simp only[rowsOf,sI] at h;subst h;rfl
 | .live r::l,rs,h=>by
  simp only[rowsOf,Option.map_eq_some_iff] at h;obtain⟨rs',h,rfl⟩:=h;simp[rowsOf_some h]
 | .free::_,_,h=>by simp[rowsOf] at h
 | .dead::_,_,h=>by simp[rowsOf] at h
theorem optsOf_some:∀{l:List Slot} {rs:List (Option Row)},optsOf l=some rs→l=rs.map slotOf
 | [],rs,h=>by simp only[optsOf,sI] at h;subst h;rfl
 | .live r::l,rs,h=>by
  simp only[optsOf,Option.map_eq_some_iff] at h;obtain⟨rs',h,rfl⟩:=h;simp[optsOf_some h,slotOf]
 | .free::_,_,h=>by simp[optsOf] at h
 | .dead::l,rs,h=>by
  simp only[optsOf,Option.map_eq_some_iff] at h;obtain⟨rs',h,rfl⟩:=h;simp[optsOf_some h,slotOf]
theorem retD_rel {Y:Ctx}:∀{rs:List D} {vs:List Value},RelDs Y rs vs→RelD Y (retD rs) (retV vs)
 | [],vs,hr2=>by
  simp only[RelDs] at hr2;subst hr2;simp only[retD,RelD,retV];exact⟨[],rfl,by simp only[RelDs]⟩
 | [d],vs,hr2=>by
  obtain⟨u,rfl,hu⟩:=relDs_one.1 hr2;exact hu
 |d1::d2::rest,vs,hr2=>by
  have hr3:=hr2;simp only[RelDs] at hr2;obtain⟨u1,us1,rfl,_,u2,us2,rfl,_⟩:=hr2;simp only[retD,RelD,retV];exact⟨_,rfl,hr3⟩
theorem fin_rel {fn:Func} {n:Nat} {how:List (Option Ty)} {s:St} {a:Act} (R:Rel b X s a) (hn:b.n=n) {val:D} {post:List (Option Row)} {allocs:List Row}
  (h:finS P fn.results.toList n how s=some (val,post,allocs)):
  ∃v ρ' S',(results fn a.tmps).run P X.w= .ok v X.w∧Mem b ⟨ρ',post.map slotOf++allocs.map .live,S',X.w⟩∧RelD ⟨ρ',post.map slotOf++allocs.map .live,S',X.w⟩ val v:=by
 unfold finS at h;split at h
 ·rename_i ds hds;split at h
  ·rename_i ds' ks hf;simp only at h;split at h
   ·rename_i hg;simp only[Bool.and_eq_true] at hg;split at h
    ·rename_i post' allocs' hp ha;simp only[sI,Prod.mk.injEq] at h;obtain⟨rfl,rfl,rfl⟩:=h;rw[←R.heap] at hds hf hg hp ha;obtain⟨vs,hrun,hr⟩:=resDs_rel R.mem R.tmps hds;have hlive:=frzDs_live R.mem hf hr;obtain⟨Y,MY,LY,hYH,hYρ,hYw,hYS,hYk,_⟩:=mem_kills ks R.mem hg.1 hlive;have hr':=frzDs_rel R.mem LY hYw hYS hf hYk hr;rw[←hYH] at hg hp ha;have MP:=mem_pack MY hn hg.2;have hin:inB (gcIds n Y.H ds') (refsDs ds')=true:=by
      have:=hg.2;unfold packOk at this;simp only[Bool.and_eq_true] at this;exact this.1.2
     have hr2:=pack_rels (gcIds n Y.H ds') hin hr';have hH:packH (gcIds n Y.H ds') Y.H=post'.map slotOf++allocs'.map .live:=by
      rw[←optsOf_some hp,←rowsOf_some ha,List.take_append_drop]
     have hX:packX Y (gcIds n Y.H ds')=⟨fun k=>Y.ρ ((gcIds n Y.H ds').getD k 0),post'.map slotOf++allocs'.map .live,Y.S,X.w⟩:=by
      unfold packX;rw[hH,hYw]
     rw[hX] at MP hr2;refine⟨_,_,_,results_run hrun,MP,?_⟩;have e:Y.H=setWrites s.heap (ks.map fun i=>(i,none)):=by rw[hYH,R.heap]
     rw[←e];exact retD_rel hr2
    ·cases h
   ·cases h
  ·cases h
 ·cases h
end
structure Goal (P:Program) where
 ro:Option Nat
 nd:Bool:=false
 Q:Beg→Frame→List Frame→Machine→Prop
 back:∀b fr cs m m',step P m= .next m'→Q b fr cs m'→Q b fr cs m
theorem Goal.steps {P:Program} (T:Goal P) {b:Beg} {fr:Frame} {cs:List Frame}:∀(n:Nat) {m m':Machine},runN P n m= .next m'→T.Q b fr cs m'→T.Q b fr cs m
 |0,m,m',h,hq=>by
  have:m=m':=by simpa [runN] using h
  rw[this];exact hq
 |n+1,m,m',h,hq=>by
  unfold runN at h;cases hs:step P m with
  |next m1=>
   rw[hs] at h;exact T.back _ _ _ _ _ hs (T.steps n h hq)
  |ended e w=>rw[hs] at h;cases h
def Goes (P:Program) (T:Goal P) (n:Nat) (k:List Item) (s:St):Prop:=
 ∀(b:Beg) (X:Ctx) (a:Act) (fr:Frame) (cs:List Frame),fr.roundOf=T.ro→b.n=n→(T.nd=true→a.defers=[])→Rel b X s a→T.Q b fr cs (lone (fr.atR a k) cs X.w)
def fnGoal (P:Program) (Φ:St→Prop):Goal P where
 ro:=none
 Q:=fun b fr cs m=>∃X' s' a' todo,Steps P m (lone {fr.atR a' todo with mode:= .returning} cs X'.w)∧Rel b X' s' a'∧Φ s'
 back:=by
  intro b fr cs m m' hs h;obtain⟨X',s',a',todo,h1,h2⟩:=h;exact⟨X',s',a',todo,Steps.head hs h1,h2⟩
abbrev Gets (P:Program) (n:Nat) (k:List Item) (s:St) (Φ:St→Prop):Prop:=Goes P (fnGoal P Φ) n k s
section
variable {P:Program} {T:Goal P} {n:Nat} {s s':St} {Φ:St→Prop} {k:List Item}
theorem Goes.step {k':List Item} (h:∀(fr:Frame) (a:Act) (cs:List Frame) (w:World),step P (lone (fr.atR a k) cs w)= .next (lone (fr.atR a k') cs w)) (hg:Goes P T n k' s):Goes P T n k s:=
 fun b X a fr cs hr hb hd R=>T.back _ _ _ _ _ (h fr a cs X.w) (hg b X a fr cs hr hb hd R)
theorem Gets.nil (h:Φ s):Gets P n [] s Φ:=fun b X a fr cs hr hb hd R=>⟨X,s,a,_,.one (stepR_end hr),R,h⟩
theorem Gets.ret (h:Φ s):Gets P n (.code .ret::k) s Φ:=fun b X a fr cs hr hb hd R=>⟨X,s,a,_,.one (stepR_ret hr),R,h⟩
theorem Goes.region {sp:Sp} {asm:List (Nat×Bool)} {ops:Array Oper} {draw:Bool} {ps:List Prop} {id:Nat} (hm:P.follows .mixedOrders=true) (h:runR P sp asm ops draw s=some (s',ps)) (hps:∀p∈ps,p) (hg:Goes P T n k s'):Goes P T n (.code (.region id ops draw)::k) s:=by
 intro b X a fr cs hr hb hd R;obtain⟨X1,a1,hd1,R1,j,hs⟩:=run_region R hm h hps id fr k cs;exact T.steps j hs (hg b X1 a1 fr cs hr hb (fun e=>by rw[hd1];exact hd e) R1)
theorem Goes.cond {c:Operand} {x y:Code} {t:Bool} (hc:evalD s.tmps c= .v (.bool t)) (hg:Goes P T n (.code (if t then x else y)::k) s):Goes P T n (.code (.cond c x y)::k) s:=by
 intro b X a fr cs hr hb hd R;have he:=evalD_rel R.mem R.tmps c;rw[hc] at he;simp only[RelD] at he;exact T.back _ _ _ _ _ (stepR_cond he) (hg b X a fr cs hr hb hd R)
end
inductive Ch where
 |t
 |f
 |go
 |g (l:List (Nat×Bool))
def Ends (P:Program) (n:Nat) (rs:List ResultVar) (how:List (Option Ty)) (r:D×List (Option Row)×List Row) (s:St):Prop:=finS P rs n how s=some r
def st0 (ntmps:Nat) (pre:List Row) (args:List D):St:=⟨args++List.replicate (ntmps-args.length) (.v undef),pre.map .live⟩
theorem relDs_undef (X:Ctx):∀m,RelDs X (List.replicate m (.v undef)) (List.replicate m undef)
 |0=>by simp only[List.replicate_zero,RelDs]
 |m+1=>by simp only[List.replicate_succ,RelDs];exact⟨undef,_,rfl,by simp only[RelD],relDs_undef X m⟩
theorem At_drop {S:Nat→Prop} {w w':World} {D:Nat} (hD:∀a:Addr,a.block=D→w.cell? a=none) (hw:∀k,k≠D→w'.heap[k]? =w.heap[k]?) {A:Option Addr} {us:List Value} (h:At S w A us):At (fun k=>S k∧k≠D) w' A us:=by
 intro j u hj;obtain⟨a,h1,h2,h3⟩:=h j u hj;have hne:a.block≠D:=by
  intro e;rw[hD (a.add j) (by rw[add_block];exact e)] at h3;cases h3
 exact⟨a,h1,⟨h2,hne⟩,by rw[cell_same (w:=w) (by rw[add_block];exact hw _ hne)];exact h3⟩
theorem RelE_drop {S:Nat→Prop} {w w':World} {D:Nat} (hD:∀a:Addr,a.block=D→w.cell? a=none) (hw:∀k,k≠D→w'.heap[k]? =w.heap[k]?):∀(t:Ty) (x:t.El) (us:List Value),RelE S w t x us→RelE (fun k=>S k∧k≠D) w' t x us
 | .int _,_,_,h=>h
 | .bool,_,_,h=>h
 | .str,_,_,h=>h
 | .unit,_,_,h=>h
 | .sl t,xs,us,⟨A,c,us',h1,h2,h3,h4,h5⟩=>⟨A,c,us',h1,h2,h3,Reps_mono (fun x us h=>RelE_drop hD hw t x us h) _ _ h4,At_drop hD hw h5⟩
 | .prod a b,x,us,⟨u1,u2,h1,h2,h3⟩=>⟨u1,u2,h1,RelE_drop hD hw a _ _ h2,RelE_drop hD hw b _ _ h3⟩
section
variable {b:Beg} {X:Ctx} {z:Nat} {w':World}
def dropX (X:Ctx) (z:Nat) (w':World):Ctx:=⟨X.ρ,X.H,fun k=>X.S k∧k≠z,w'⟩
mutual
theorem relD_drop (hD:∀a:Addr,a.block=z→X.w.cell? a=none) (hw:∀k,k≠z→w'.heap[k]? =X.w.heap[k]?):∀(d:D) (u:Value),RelD X d u→RelD (dropX X z w') d u
 | .v x,u,h=>by simp only[RelD] at h⊢;exact h
 | .sl nn cl t xs,u,h=>by
  simp only[RelD] at h⊢;obtain⟨A,c,us,h1,h2,h3,h4,h5,h6,h7⟩:=h;exact⟨A,c,us,h1,h2,h3,h4,h5,Reps_mono (fun x us h=>RelE_drop hD hw t x us h) _ _ h6,At_drop hD hw h7⟩
 | .arr t xs,u,h=>by
  simp only[RelD] at h⊢;obtain⟨us,h1,h2⟩:=h;exact⟨us,h1,Reps_mono (fun x us h=>RelE_drop hD hw t x us h) _ _ h2⟩
 | .own id off len cap,u,h=>by simp only[RelD] at h⊢;exact h
 | .ptr id i off,u,h=>by simp only[RelD] at h⊢;exact h
 | .bsl id len sz,u,h=>by simp only[RelD] at h⊢;exact h
 | .lenv n,u,h=>by simp only[RelD] at h⊢;exact h
 | .rptr cs,u,h=>by
  simp only[RelD] at h⊢;obtain⟨a,us,h1,h2,h3⟩:=h;exact⟨a,us,h1,relDs_drop' hD hw cs us h2,At_drop hD hw h3⟩
 | .agg cs,u,h=>by
  simp only[RelD] at h⊢;obtain⟨us,h1,h2⟩:=h;exact⟨us,h1,relDs_drop' hD hw cs us h2⟩
 | .fn f cs,u,h=>by
  simp only[RelD] at h⊢;obtain⟨us,h1,h2⟩:=h;exact⟨us,h1,relDs_drop' hD hw cs us h2⟩
 | .tup cs,u,h=>by
  simp only[RelD] at h⊢;obtain⟨us,h1,h2⟩:=h;exact⟨us,h1,relDs_drop' hD hw cs us h2⟩
 | .top,u,h=>by simp only[RelD]
theorem relDs_drop' (hD:∀a:Addr,a.block=z→X.w.cell? a=none) (hw:∀k,k≠z→w'.heap[k]? =X.w.heap[k]?):∀(ds:List D) (us:List Value),RelDs X ds us→RelDs (dropX X z w') ds us
 | [],us,h=>by simp only[RelDs] at h⊢;exact h
 |d::ds,us,h=>by
  simp only[RelDs] at h⊢;obtain⟨u,us',h1,h2,h3⟩:=h;exact⟨u,us',h1,relD_drop hD hw d u h2,relDs_drop' hD hw ds us' h3⟩
end
theorem no_cells {w:World} {z:Nat} {o:Obj} (h:w.heap[z]? =some o) (ho:∀cs ty fz,o≠ .cells cs ty fz):∀a:Addr,a.block=z→w.cell? a=none:=by
 intro a ha;unfold World.cell?;rw[ha,h];cases o<;>first|rfl|exact absurd rfl (ho _ _ _)
theorem mem_drop (M:Mem b X) {o:Obj} (hD:X.w.heap[z]? =some o) (ho:∀cs ty fz,o≠ .cells cs ty fz) (hb:b.w.heap.size≤z) (hbS:¬b.S z)
  (hw:∀k,k≠z→w'.heap[k]? =X.w.heap[k]?) (hos:w'.os=X.w.os) (htape:w'.tape=X.w.tape) (hout:w'.output=X.w.output) (hsz:w'.heap.size=X.w.heap.size):Mem b (dropX X z w'):=by
 have hc:=no_cells hD ho;have hrow:∀id r l,hget X.H id=some r→X.ρ id=some l→∀k∈l.bs,k≠z:=by
  intro id r l h1 h2 k hk e;have h3:=M.rows id r h1;rw[h2] at h3;obtain⟨cs,ty,h4⟩:∃cs ty,X.w.heap[k]? =some (.cells cs ty (0,0)):=h3.cells (M.ok id r l h1 h2) k hk;rw[e,hD] at h4;exact ho _ _ _ (Option.some.inj h4)
 refine⟨hos.trans M.os,htape.trans M.tape,hout.trans M.output,by show _≤w'.heap.size;rw[hsz];exact M.size,M.inj,?_,?_,?_,?_,M.fresh,M.old,?_,?_,?_,M.ok⟩
 ·intro id r hr;have h:=M.rows id r hr;show RelRow (dropX X z w') r (X.ρ id);cases r with
  |nest k xs hh=>
   refine relRow_nestG (X:=X) (Y:=dropX X z w') (fun _ _ c v _ h=>relD_drop hc hw c v h) (fun t xs us h=>Reps_mono (fun x us h=>RelE_drop hc hw t x us h) _ _ h) (fun l hl q hq=>hw q (hrow id _ l hr hl q hq)) ?_ h;cases hh with
   |none=>trivial
   |some q=>
    obtain⟨i,d⟩:=q;exact⟨rfl,fun v hv=>relD_drop hc hw d v hv⟩
  |box _ ds=>
   cases hl:X.ρ id with
   |none=>rw[hl] at h;exact h
   |some l=>
    rw[hl] at h;obtain⟨cs,ty,h1,h2,h3⟩:=h;refine⟨cs,ty,by show w'.heap[l.b]? =_;rw[hw _ (hrow id _ l hr hl _ l.b_in)];exact h1,h2,?_⟩;obtain⟨h4,us,h5,h6,h7⟩:=h3;exact⟨h4,us,h5,relDs_drop' hc hw ds us h6,h7⟩
  |data e t xs=>
   cases hl:X.ρ id with
   |none=>rw[hl] at h;exact h
   |some l=>
    rw[hl] at h;obtain⟨cs,ty,h1,h2,h3⟩:=h;refine⟨cs,ty,by show w'.heap[l.b]? =_;rw[hw _ (hrow id _ l hr hl _ l.b_in)];exact h1,h2,?_⟩;obtain⟨h4,us,h5,h6,h7⟩:=h3;exact⟨h4,us,Reps_mono (fun x us h=>RelE_drop hc hw t x us h) _ _ h5,h6,h7⟩
 ·exact fun id p h1 h2 k hk h3=>M.sep id p h1 h2 k hk h3.1
 ·exact fun k hk=>by show k<w'.heap.size;rw[hsz];exact M.stab k hk.1
 ·intro k h1 h2;show w'.heap[k]? =_;rw[hw k (by omega)];exact M.keep k h1 h2
 ·exact fun k hk=>⟨M.sub k hk,fun e=>hbS (e▸hk)⟩
 ·exact fun k hk=>M.sup k hk.1
 ·intro p hp;obtain⟨g1,g2⟩:=M.glob p hp;by_cases e:p.1=z
  ·have hne:p.2=[]:=by
    cases hp2:p.2 with
    |nil=>rfl
    |cons u us=>
     have:=g2 0 u (by rw[hp2];rfl);rw[hc _ e] at this;cases this
   exact absurd hne (gTab_full p hp)
  ·refine⟨⟨g1,e⟩,fun j u hj=> ?_⟩;show w'.cell? _=_;rw[cell_same (w:=X.w) (hw _ e)];exact g2 j u hj
end
theorem putObj_ne {w:World} {D:Nat} {o:Obj}:∀k,k≠D→(w.putObj D o).heap[k]? =w.heap[k]? :=fun k h=>World.putObj_heap_other h
theorem unwind_marks {P:Program} {b:Beg} {s:St} {fr:Frame} {todo:List Item} {cs:List Frame}:∀(Ds:List Nat) {X:Ctx} {a:Act},Mem b X→RelDs X s.tmps a.tmps.toList→X.H=s.heap→
  (∀k,b.S k→k<b.w.heap.size)→Ds.Nodup→(∀D∈Ds,b.w.heap.size≤D∧X.S D∧X.w.heap[D]? =some (.deferred (some [])))→a.defers=Ds.map (fun D=>{target:= .collected D,args:= #[]})→
  ∃X',Mem b X'∧RelDs X' s.tmps a.tmps.toList∧X'.H=s.heap∧Steps P (lone {fr.atR a todo with mode:= .returning} cs X.w) (lone {fr.atR {a with defers:=[]} todo with mode:= .returning} cs X'.w)
 | [],X,a,M,hT,hH,_,_,_,hd=>⟨X,M,hT,hH,by
   have:({a with defers:=[]}:Act)=a:=by cases a;simp at hd;simp[hd]
   rw[this];exact Steps.refl _ _⟩
 |D::Ds,X,a,M,hT,hH,hb,hn,hall,hd=>by
  obtain⟨h1,h2,h3⟩:=hall D List.mem_cons_self;have hn':=List.nodup_cons.1 hn;have hbS:¬b.S D:=fun h=>by have:=hb D h;omega
  have hne:∀cs ty z,(Obj.deferred (some []))≠ .cells cs ty z:=fun _ _ _ h=>by cases h
  have hlt:D<X.w.heap.size:=(Array.getElem?_eq_some_iff.1 h3).1;have M1:=mem_drop (w':=X.w.putObj D (.deferred none)) M h3 hne h1 hbS putObj_ne rfl rfl rfl (by simp);have hT1:RelDs (dropX X D (X.w.putObj D (.deferred none))) s.tmps a.tmps.toList:=relDs_drop' (no_cells h3 hne) putObj_ne _ _ hT;obtain⟨X',M2,hT2,hH2,hs⟩:=unwind_marks (P:=P) (fr:=fr) (todo:=todo) (cs:=cs) (s:=s) Ds (a:={a with defers:=Ds.map (fun D=>{target:= .collected D,args:= #[]})}) M1 hT1 hH hb hn'.2 (fun E hE=>by
   obtain⟨g1,g2,g3⟩:=hall E (List.mem_cons_of_mem _ hE);have hED:E≠D:=fun e=>hn'.1 (e▸hE);exact⟨g1,⟨g2,hED⟩,by show(X.w.putObj D _).heap[E]? =_;rw[putObj_ne E hED];exact g3⟩) rfl
  refine⟨X',M2,hT2,hH2,.head ?_ hs⟩;have:=step_collected (P:=P) (fr:={fr.atR a todo with mode:= .returning}) (cs:=cs) (w:=X.w) (d:={target:= .collected D,args:= #[]}) (r:=D) (ds:=Ds.map (fun D=>{target:= .collected D,args:= #[]})) (calls:=[]) (by simp) (by show a.defers=_;rw[hd];rfl) rfl (run_takeDeferred h3);exact this
theorem con_of {P:Program} {f:FuncId} {fn:Func} {c:Code} {pre:List Row} {args:List D} {val:D} {post:List (Option Row)} {allocs:List Row} {how:List (Option Ty)}
  (hf:P.funcs[f]? =some fn) (hname:(fn.name== "runtime.NumGoroutine")=false) (hb:fn.body=some c)
  (hg:Gets P pre.length [.code c] (st0 fn.ntmps pre args) (Ends P pre.length fn.results.toList how (val,post,allocs))):Con P f pre args val post allocs:=by
 refine⟨⟨fn,hf,hname,by rw[hb];rfl⟩,?_⟩;intro w ρ S vs M hargs cs;have hlen:=relDs_length hargs;have R:Rel ⟨w,ρ,S,pre.length⟩ ⟨ρ,pre.map .live,S,w⟩ (st0 fn.ntmps pre args) {tmps:=vs.toArray++Array.replicate (fn.ntmps-vs.toArray.size) undef,defers:=[]}:=by
  refine⟨M,?_,rfl,by simp[st0],M.stab,[],rfl,List.nodup_nil,fun D h=>by simp at h⟩;simp only[st0,Array.toList_append,Array.toList_replicate,List.size_toArray,hlen];rw[relDs_append];exact⟨_,_,rfl,hargs,relDs_undef _ _⟩
 let b:Frame:={(default:Frame) with fn:=f,kind:= .normal,roundOf:=none}
 have henter:Frame.enter P f vs.toArray .normal=b.atR {tmps:=vs.toArray++Array.replicate (fn.ntmps-vs.toArray.size) undef,defers:=[]} [.code c]:=by
  simp[Frame.enter,Frame.atR,hf,hb,b]
 obtain⟨X',s',a',todo,h1,R',hfin⟩:=hg _ _ _ b cs rfl rfl (fun h=>rfl) R;rw[←henter] at h1;obtain⟨hl,Ds,hd,hn,hall⟩:=R'.defers;obtain⟨X2,M2,hT2,hH2,hs⟩:=unwind_marks (P:=P) (fr:=b) (todo:=todo) (cs:=cs) Ds R'.mem R'.tmps R'.heap hl hn hall hd;have R2:Rel ⟨w,ρ,S,pre.length⟩ X2 s' {a' with defers:=[]}:=⟨M2,hT2,hH2,R'.len,hl,[],rfl,List.nodup_nil,fun D h=>by simp at h⟩;obtain⟨v,ρ',S',h2,h3,h4⟩:=fin_rel R2 rfl hfin;exact⟨.returned v,X2.w,_,⟨v,ρ',S',rfl,h3,h4⟩,Steps.trans h1 hs,rfl,rfl,rfl,rfl,fn,hf,h2⟩
end Go.Proofs.YtnakmganodkliaaDoorAm
