/- What refute.Prove may tell, for every problem (claim RefuteProves): the logic, the contracts and the plain laws (part 3) -/
import Derived.Laws.Cover3
import Derived.Orders
import Derived.Test.YtnakmganodkliaaDoorPrb
set_option linter.unusedVariables false
set_option linter.unusedSimpArgs false
namespace Go.Proofs.YtnakmganodkliaaDoorAm
open Go
section
variable {P:Program} {b:Beg} {X:Ctx}
theorem at_none {S:Nat→Prop} {w:World} {A:Option Addr} {us:List Value} (h:At S w A us) (hA:A=none):us=[]:=by
 cases us with
 |nil=>rfl
 |cons u us=>
  obtain⟨a,e,_⟩:=h 0 u rfl;rw[hA] at e;cases e
theorem at_weaken {S:Nat→Prop} {w:World} {A:Option Addr} {us:List Value} (h:At S w A us):At (fun _=>True) w A us:=fun j u hj=>by
 obtain⟨a,e,_,hc⟩:=h j u hj;exact⟨a,e,trivial,hc⟩
theorem rdDat_some {rd:Nat→Option Row} {id:Nat} {r:Row} (h:rdDat rd id=some r):rd id=some r∧∀k xs hh,r≠ .nest k xs hh:=by
 unfold rdDat at h;split at h
 ·cases h
 ·rename_i hn;exact⟨h,fun k xs hh e=>hn k xs hh (by rw[h,e])⟩
theorem src_data (M:Mem b X) (rd:Nat→Option Row) (hrd:∀id r,rd id=some r→hget X.H id=some r) {ty:Ty} {d:D} {ys:List ty.El} {u:Value} (h:(Ty.sl ty).ofCells (rdDat rd) [d]=some ys) (hr:RelD X d u):
  ∃A c us,u= .slice A (List.length ys) c∧List.length ys≤c∧(A=none→us=[])∧Reps (RelE X.S X.w ty) ys us∧At (fun _=>True) X.w A us:=by
 simp only[Ty.ofCells] at h;unfold slC at h;split at h
 ·rename_i nn cl t' xs heq;cases heq;split at h
  ·rename_i ht;subst ht;simp only[sI] at h;subst h;simp only[RelD] at hr;obtain⟨A,c,us',e1,h2,h3,_,_,h5,h6⟩:=hr;exact⟨A,c,us',e1,h2,fun e=>at_none h6 e,h5,at_weaken h6⟩
  ·cases h
 ·rename_i heq;cases heq;simp only[sI] at h;subst h;simp only[RelD] at hr;exact⟨none,0,[],hr,Nat.le_refl _,fun _=>rfl,rfl,fun j u hj=>by simp at hj⟩
 ·rename_i id off len cap heq;cases heq;rcases rowData_some h with⟨e,xs,hr1,hx⟩|⟨k,xs,hr1,_⟩
  ·subst hx;obtain⟨A,c,us',e1,h2,h3,h4,h5,_⟩:=own_data (S':=fun _=>True) M (fun _ _=>trivial) (hrd _ _ (rdDat_some hr1).1) (fun _ _ _ _=>trivial) hr;exact⟨A,c,us',e1,h2,fun e=>at_none h5 e,h4,h5⟩
  ·exact absurd rfl ((rdDat_some hr1).2 k xs none)
 ·cases h
theorem relE_one {S:Nat→Prop} {w:World}:∀(t:Ty) (x:t.El) (us:List Value),RelE S w t x us→∀u,u∈us→u.oneCell'=true
 | .int _,_,us,h,u,hu=>by rw[h] at hu;simp at hu;subst hu;rfl
 | .bool,_,us,h,u,hu=>by rw[h] at hu;simp at hu;subst hu;rfl
 | .str,_,us,h,u,hu=>by rw[h] at hu;simp at hu;subst hu;rfl
 | .sl t,xs,us,⟨A,c,us',e,_⟩,u,hu=>by rw[e] at hu;simp at hu;subst hu;rfl
 | .prod a b,x,us,⟨u1,u2,e,h1,h2⟩,u,hu=>by
  rw[e] at hu;rcases List.mem_append.1 hu with h|h
  ·exact relE_one a _ _ h1 u h
  ·exact relE_one b _ _ h2 u h
 | .unit,_,us,h,u,hu=>by rw[h] at hu;simp at hu
theorem reps_one {S:Nat→Prop} {w:World} {t:Ty}:∀{xs:List t.El} {us:List Value},Reps (RelE S w t) xs us→∀u,u∈us→u.oneCell'=true
 | [],us,h,u,hu=>by simp only[Reps] at h;subst h;simp at hu
 |x::xs,us,⟨u1,u2,e,h1,h2⟩,u,hu=>by
  rw[e] at hu;rcases List.mem_append.1 hu with h|h
  ·exact relE_one t x u1 h1 u h
  ·exact reps_one h2 u h
theorem s_append_grow (M:Mem b X) {nid:Nat} (hf:slot X.H nid= .free) (hl:nid<X.H.length) (hn:b.n≤nid) {t t' e e' oty:TypeId} {i:TypeInfo} {z:Value} (ht:P.underlying t=some (.slice e)) (ht':P.underlying t'=some (.slice e')) (hi:P.info? e=some i) (hz:i.zero=some z)
  {ty:Ty} (hsz:ty.size=i.size) (hzs:z.cells.size=i.size) (hzo:∀u,u∈z.cells.toList→u.oneCell'=true)
  {A A2:Option Addr} {sLen sCap c2:Nat} {xs ys:List ty.El} {us vs:List Value} (hx:Reps (RelE X.S X.w ty) xs us) (hy:Reps (RelE X.S X.w ty) ys vs) (hxl:xs.length=sLen)
  (hAt:At (fun _=>True) X.w A us) (hAt2:At (fun _=>True) X.w A2 vs) (hA:A=none→us=[]) (hA2:A2=none→vs=[])
  (hg:sCap<sLen+ys.length) (hroom:roomy P e (sLen+ys.length)) (h0:ty.size≠0):
  ∃v X',(Builtin.append_ #[t,t'] oty #[.slice A sLen sCap,.slice A2 ys.length c2]).run P X.w= .ok v X'.w∧Mem b X'∧X'.H=X.H.set nid (.live (.data e ty (xs++ys)))∧Le X X'∧RelD X' (.own nid 0 (sLen+ys.length) none) v:=by
 have hul:=reps_length hx;have hvl:=reps_length hy;obtain⟨hroom,hroom2⟩:=hroom;have hby:P.bytesOf e=i.bytes:=by simp[Program.bytesOf,hi]
 rw[hby] at hroom;obtain⟨M1,L1⟩:=mem_drew M (X.w.drawn+1) rfl;have h63:((sLen+ys.length:Nat):Int)≤9223372036854775807:=by omega
 have hfit:=growslice_fits (old:=sCap) (by omega:sCap<sLen+ys.length) hroom;have hfo:=run_firstCells_at (P:=P) (c:=sCap) (m:=sLen) (size:=i.size) (by rw[hul,hxl,hsz]) hA hAt X.w.drew rfl;have hfn:=run_firstCells_at (P:=P) (c:=c2) (m:=ys.length) (size:=i.size) (by rw[hvl,hsz]) hA2 hAt2 X.w.drew rfl;have hr:=run_append_more (ty:=oty) ht ht' hi hz X.w A A2 sLen sCap ys.length c2 hfo hfn hg h63 hfit;have hge:=grownCap_ge X.w (sLen+ys.length) sCap e;generalize grownCap X.w (sLen+ys.length) sCap e=nc at hr hge
 have hreps:=hx.append hy;have hreps':Reps (RelE X.S X.w.drew ty) (xs++ys) (us++vs):=Reps_mono (fun x u h=>RelE_mono (S:=X.S) (w:=X.w) (S':=X.S) (w':=X.w.drew) (fun k hk=>⟨hk,rfl⟩) ty x u h) _ _ hreps;have hzl:(Builtin.zeroCells z.cells (nc-(sLen+ys.length))).toList.length=(nc-(sLen+ys.length))*ty.size:=by rw[Array.length_toList,size_zeroCells,hzs,hsz]
 have hsize:(us++vs++(Builtin.zeroCells z.cells (nc-(sLen+ys.length))).toList).toArray.size=nc*ty.size:=by
  rw[List.size_toArray,List.length_append,List.length_append,hul,hvl,hzl,hxl,←Nat.add_mul,←Nat.add_mul];congr 1
  omega
 have hc:Content ⟨X.ρ,X.H,X.S,X.w.drew⟩ (.data e ty (xs++ys)) (.of X.w.drew.heap.size 0 (us++vs++(Builtin.zeroCells z.cells (nc-(sLen+ys.length))).toList).toArray.size)
   (us++vs++(Builtin.zeroCells z.cells (nc-(sLen+ys.length))).toList).toArray e:=by
  refine⟨rfl,rfl,us++vs,hreps',reps_one hreps,?_,?_⟩
  ·simp
  ·intro j u hj;simp only[Nat.zero_add,List.getElem?_toArray];rw[List.getElem?_append_left]
   ·exact hj
   ·exact(List.getElem?_eq_some_iff.1 hj).1
 obtain⟨M2,L2⟩:=mem_alloc M1 (id:=nid) hf hl hn (.data e ty (xs++ys)) _ e rfl hc;refine⟨_,_,hr,M2,rfl,L1.trans L2,?_⟩;exact relD_new (X:=⟨X.ρ,X.H,X.S,X.w.drew⟩) hl none (by simp;omega) hge (by simp) (fun _=>by simp;omega) _ (by rw[hsize];exact Nat.le_refl _)
end
section
variable {P:Program} {b:Beg} {X:Ctx}
theorem hget_ne_free {H:Heap} {id nid:Nat} {r:Row} (h:hget H id=some r) (hf:slot H nid= .free):nid≠id:=by
 intro e;subst e;rw[hget_live] at h;rw[hf] at h;cases h
theorem s_append_nil (M:Mem b X) {nid:Nat} (hf:slot X.H nid= .free) (hl:nid<X.H.length) (hn:b.n≤nid) (rd:Nat→Option Row) (hrd:∀id r,rd id=some r→hget X.H id=some r)
  {t t' e e' oty:TypeId} {z:List D} (ht:P.underlying t=some (.slice e)) (ht':P.underlying t'=some (.slice e')) (hz:zeroD P e=some z)
  {ty:Ty} (hsz:ty.size=P.cellsOf e) (h0:ty.size≠0) {x:D} {ys:List ty.El} {u:Value} (hx:(Ty.sl ty).ofCells (rdDat rd) [x]=some ys) (hu:RelD X x u) (hroom:roomy P e (List.length ys)):
  ∃v X',(Builtin.append_ #[t,t'] oty #[.slice none 0 0,u]).run P X.w= .ok v X'.w∧Mem b X'∧X'.H=X.H.set nid (.live (.data e ty ys))∧Le X X'∧RelD X' (.own nid 0 (List.length ys) none) v:=by
 obtain⟨i,zv,hi,hz',hs,ho,rfl⟩:=zeroD_some hz;have hsz':ty.size=i.size:=by rw[hsz];simp[Program.cellsOf,hi]
 obtain⟨A,c,us,e1,h2,h3,h4,h5⟩:=src_data M rd hrd hx hu;subst e1;cases ys with
 |nil=>
  simp only[Reps] at h4;subst h4;obtain⟨M',L'⟩:=mem_virt M hf hl hn e ty;refine⟨.slice none 0 0,X.put nid (.live (.data e ty [])) none X.S X.w,run_append_none ht ht' hi X.w none A 0 0 c (Nat.le_refl _) ?_,M',rfl,L',?_⟩
  ·exact run_firstCells_at (us:=[]) (by simp) (fun _=>rfl) h5 X.w rfl
  ·simp only[RelD];rw[slot_put X _ _ _ _ hl];exact⟨by simp,none,0,rfl,Nat.le_refl _,fun _=>rfl,by simp,by simp,.inl rfl⟩
 |cons y ys=>
  have:=s_append_grow (oty:=oty) (sLen:=0) (sCap:=0) (c2:=c) (xs:=[]) (us:=[]) M hf hl hn ht ht' hi hz' hsz' hs ho (A:=none) (by simp[Reps]) h4 rfl (fun j u hj=>by simp at hj) h5 (fun _=>rfl) h3 (by simp) (by simpa using hroom) h0;simpa using this
theorem s_append_grow_kill (M:Mem b X) {nid:Nat} (hf:slot X.H nid= .free) (hl:nid<X.H.length) (hn:b.n≤nid)
  {t t' e e' oty:TypeId} {i:TypeInfo} {z:Value} (ht:P.underlying t=some (.slice e)) (ht':P.underlying t'=some (.slice e')) (hi:P.info? e=some i) (hz:i.zero=some z)
  {ty:Ty} (hsz:ty.size=i.size) (hzs:z.cells.size=i.size) (hzo:∀u,u∈z.cells.toList→u.oneCell'=true)
  {A A2:Option Addr} {sLen sCap c2:Nat} {xs ys:List ty.El} {us vs:List Value} (hx:Reps (RelE X.S X.w ty) xs us) (hy:Reps (RelE X.S X.w ty) ys vs) (hxl:xs.length=sLen)
  (hAt:At (fun _=>True) X.w A us) (hAt2:At (fun _=>True) X.w A2 vs) (hA:A=none→us=[]) (hA2:A2=none→vs=[])
  (hg:sCap<sLen+ys.length) (hroom:roomy P e (sLen+ys.length)) (h0:ty.size≠0) {id:Nat} {r0:Row} (hid:hget X.H id=some r0):
  ∃v X',(Builtin.append_ #[t,t'] oty #[.slice A sLen sCap,.slice A2 ys.length c2]).run P X.w= .ok v X'.w∧Mem b X'∧X'.H=(X.H.set nid (.live (.data e ty (xs++ys)))).set id .dead∧Le X X'∧RelD X' (.own nid 0 (sLen+ys.length) none) v:=by
 obtain⟨v,X1,hr,M1,hH1,L1,hv⟩:=s_append_grow (oty:=oty) (c2:=c2) M hf hl hn ht ht' hi hz hsz hzs hzo hx hy hxl hAt hAt2 hA hA2 hg hroom h0;have hne:=hget_ne_free hid hf;have hid1:hget X1.H id=some r0:=by
  rw[hH1,hget_set,if_neg (fun h=>hne h.1)];exact hid
 obtain⟨M2,L2⟩:=mem_kill M1 hid1 X1.S (fun _ h=>h) (fun _ h=> .inl h);refine⟨v,X1.put id .dead (X1.ρ id) X1.S X1.w,hr,M2,?_,L1.trans L2,L2.d hv⟩;show X1.H.set id .dead=_;rw[hH1]
theorem s_append_own (M:Mem b X) {nid:Nat} (hf:slot X.H nid= .free) (hl:nid<X.H.length) (hn:b.n≤nid) (rd:Nat→Option Row) (hrd:∀id r,rd id=some r→hget X.H id=some r)
  {t t' e e' oty:TypeId} {z:List D} (ht:P.underlying t=some (.slice e)) (ht':P.underlying t'=some (.slice e')) (hz:zeroD P e=some z)
  {ty:Ty} (hsz:ty.size=P.cellsOf e) (h0:ty.size≠0) {x:D} {ys:List ty.El} {u v0:Value} (hx:(Ty.sl ty).ofCells (rdDat rd) [x]=some ys) (hu:RelD X x u)
  {id off len:Nat} {cap:Option Nat} {xs:List ty.El} (hid:hget X.H id=some (.data e ty xs)) (hs0:RelD X (.own id off len cap) v0) (hroom:roomy P e (len+List.length ys)):
  ∃v X',(Builtin.append_ #[t,t'] oty #[v0,u]).run P X.w= .ok v X'.w∧Mem b X'∧X'.H=(X.H.set nid (.live (.data e ty ((xs.drop off).take len++ys)))).set id .dead∧Le X X'∧RelD X' (.own nid 0 (len+List.length ys) none) v:=by
 obtain⟨i,zv,hi,hz',hs,ho,rfl⟩:=zeroD_some hz;have hsz':ty.size=i.size:=by rw[hsz];simp[Program.cellsOf,hi]
 obtain⟨A2,c2,vs,e2,h22,h23,h24,h25⟩:=src_data M rd hrd hx hu;subst e2;have hne:=hget_ne_free hid hf;have hs1:=hs0;simp only[RelD] at hs1;rw[hget_live.1 hid] at hs1;obtain⟨hlen,A,c,ev,hc,hA,hk,hk2,hplace⟩:=hs1;have hcl:((xs.drop off).take len).length=len:=by simp;omega
 obtain⟨A',c',us,ev',_,_,hreps,hat,hone⟩:=own_data (S':=fun _=>True) M (fun _ _=>trivial) hid (fun _ _ _ _=>trivial) hs0;rw[ev] at ev';rw[hcl] at ev';simp only[Value.slice.injEq,true_and] at ev';obtain⟨rfl,rfl⟩:=ev';subst ev;by_cases hfit:len+List.length ys≤c
 ·by_cases hc0:c=0
  ·have hl0:len=0:=by omega
   have hy0:ys=[]:=List.eq_nil_of_length_eq_zero (by omega);subst hl0;subst hy0;subst hc0;obtain⟨M1,L1⟩:=mem_kill M hid X.S (fun _ h=>h) (fun _ h=> .inl h);have hf1:slot (X.put id .dead (X.ρ id) X.S X.w).H nid= .free:=by
    show slot (X.H.set id _) nid=_;rw[slot_set,if_neg (fun h=>hne h.1.symm)];exact hf
   have hl1:nid< (X.put id .dead (X.ρ id) X.S X.w).H.length:=by
    show nid< (X.H.set id _).length;simpa using hl
   obtain⟨M2,L2⟩:=mem_virt M1 hf1 hl1 hn e ty;simp only[Reps] at h24;subst h24;refine⟨.slice A 0 0,(X.put id .dead (X.ρ id) X.S X.w).put nid (.live (.data e ty [])) none X.S X.w,run_append_none ht ht' hi X.w A A2 0 0 c2 (Nat.le_refl _) ?_,M2,?_,L1.trans L2,?_⟩
   ·exact run_firstCells_at (us:=[]) (by simp) (fun _=>rfl) h25 X.w rfl
   ·show(X.H.set id _).set nid _=_;rw[List.set_comm _ _ hne.symm];simp
   ·simp only[RelD];rw[slot_put _ _ _ _ _ hl1];exact⟨by simp,A,0,rfl,Nat.le_refl _,fun _=>rfl,by simp,by simp,.inl rfl⟩
  ·obtain⟨l',hl0,hA1,hbound⟩:=hplace.resolve_left hc0;obtain⟨l,hl1,rfl⟩:=Ctx.pl_some hl0;subst hA1;have hrow:=M.rows id _ hid;rw[hl1] at hrow;obtain⟨acs,bt,hb,hacn,hbt,_⟩:=hrow;have hul:=reps_length hreps;rw[hcl] at hul;have hvl:=reps_length h24;have hfn:=run_firstCells_at (P:=P) (c:=c2) (m:=List.length ys) (size:=i.size) (by rw[hvl,hsz']) h23 h25 X.w rfl;have hmul:(len+List.length ys)*ty.size≤c*ty.size:=Nat.mul_le_mul_right _ hfit;rw[Nat.add_mul] at hmul hbound;have hbig:(l.o+off*ty.size)+len*i.size+vs.length≤acs.size:=by
    rw[hacn,hvl,←hsz'];omega
   have hrun:=run_append_fit (ty:=oty) ht ht' hi X.w l.b (l.o+off*ty.size) len c A2 (List.length ys) c2 acs bt hb (by rw[hvl,hsz']) hfn (reps_one h24) hfit hbig;obtain⟨M1,L1⟩:=mem_kill M hid X.S (fun _ h=>h) (fun _ h=> .inl h);have hf1:slot (X.put id .dead (X.ρ id) X.S X.w).H nid= .free:=by
    show slot (X.H.set id _) nid=_;rw[slot_set,if_neg (fun h=>hne h.1.symm)];exact hf
   have hln1:nid< (X.put id .dead (X.ρ id) X.S X.w).H.length:=by
    show nid< (X.H.set id _).length;simpa using hl
   have hset:=setRow_heap X.w l.b acs (acs.toList.take (l.o+off*ty.size+len*i.size)++vs++acs.toList.drop (l.o+off*ty.size+len*i.size+vs.length)).toArray bt (0,0) hb;have hcont:Content (X.put id .dead (X.ρ id) X.S X.w) (.data e ty ((xs.drop off).take len++ys)) (.of l.b (l.o+off*ty.size) l.n)
     (acs.toList.take (l.o+off*ty.size+len*i.size)++vs++acs.toList.drop (l.o+off*ty.size+len*i.size+vs.length)).toArray bt:=by
    refine⟨?_,hbt,us++vs,hreps.append h24,?_,?_,?_⟩
    ·rw[←hacn];simp;omega
    ·intro w hw;rcases List.mem_append.1 hw with h|h
     ·exact hone w h
     ·exact reps_one h24 w h
    ·show l.o+off*ty.size+(us++vs).length≤l.n;rw[List.length_append,hul,hvl];omega
    ·intro j w hj;show(List.toArray _)[l.o+off*ty.size+j]? =_;simp only[List.getElem?_toArray];rw[list_splice _ _ _ (by rw[Array.length_toList];omega)];rw[List.getElem?_append] at hj;by_cases hju:j<us.length
     ·rw[if_pos hju] at hj;rw[if_pos (by rw[←hsz',←hul];omega)];obtain⟨a,ea,_,hcell⟩:=hat j w hj;cases ea;rw[add_plain,cell_of_row _ _ _ _ _ _ hb] at hcell;simpa using hcell
     ·rw[if_neg hju] at hj;have hjv:j-us.length<vs.length:=(List.getElem?_eq_some_iff.1 hj).1;rw[if_neg (by rw[←hsz',←hul];omega),if_pos (by rw[←hsz',←hul];omega),←hj];congr 1
      rw[←hsz',←hul];omega
   obtain⟨M2,L2⟩:=mem_new M1 hf1 hln1 hn (.data e ty ((xs.drop off).take len++ys)) (.of l.b (l.o+off*ty.size) l.n) (X.w.setRow l.b (acs.toList.take (l.o+off*ty.size+len*i.size)++vs++acs.toList.drop (l.o+off*ty.size+len*i.size+vs.length)).toArray)
    rfl rfl rfl (by show X.w.heap.size≤_;simp) (fun k _ hk=>setRow_other X.w l.b k _ hk) rfl rfl
    (fun j p hj hp e=>by
     have hj':hget (X.H.set id .dead) j≠none:=hj;rw[hget_set] at hj';by_cases hji:id=j∧id<X.H.length
     ·rw[if_pos hji] at hj';exact hj' rfl
     ·rw[if_neg hji] at hj';rw[ctx_put_same] at hp;have:=M.inj j id p l hj' (by rw[hid];simp) hp hl1 _ e l.b_in;exact hji ⟨this.symm,lt_of_slot (by rw[hget_live.1 hid];simp)⟩)
    (M.sep id l (by rw[hid];simp) hl1 _ l.b_in) (M.fresh id l (by rw[hid];simp) hl1 _ l.b_in) _ bt hset hcont
   refine⟨_,_,hrun,M2,?_,L1.trans L2,?_⟩
   ·show(X.H.set id _).set nid _=_;rw[List.set_comm _ _ hne.symm]
   ·simp only[RelD];rw[slot_put _ _ _ _ _ hln1];refine⟨by simp only[List.length_append,hcl];omega,_,c,rfl,hfit,by simp,by simp,fun _=>by simp only[List.length_append,hcl];omega,.inr ⟨⟨l.b,l.o+off*ty.size,l.n⟩,by simp[Ctx.pl,Ctx.put],by simp,?_⟩⟩;simp only[Nat.zero_add];omega
 ·obtain⟨v,X',hr,M',hH,L',hv⟩:=s_append_grow_kill (oty:=oty) (c2:=c2) M hf hl hn ht ht' hi hz' hsz' hs ho (A:=A) (sCap:=c) (sLen:=len) hreps h24 hcl hat h25 (fun e=>at_none hat e) h23 (by omega) hroom h0 hid;exact⟨v,X',hr,M',hH,L',hv⟩
theorem s_append_zero (M:Mem b X) {nid:Nat} (hf:slot X.H nid= .free) (hl:nid<X.H.length) (hn:b.n≤nid) (rd:Nat→Option Row) (hrd:∀id r,rd id=some r→hget X.H id=some r)
  {t t' e e' oty:TypeId} {z:List D} (ht:P.underlying t=some (.slice e)) (ht':P.underlying t'=some (.slice e')) (hz:zeroD P e=some z)
  {ty:Ty} (hsz:ty.size=P.cellsOf e) (h0:ty.size≠0) {x:D} {ys:List ty.El} {u v0:Value} (hx:(Ty.sl ty).ofCells (rdDat rd) [x]=some ys) (hu:RelD X x u)
  {id off len:Nat} {xs:List ty.El} (hid:hget X.H id=some (.data e ty xs)) (hs0:RelD X (.own id off len (some 0)) v0) (hroom:roomy P e (len+List.length ys)):
  ∃v X',(Builtin.append_ #[t,t'] oty #[v0,u]).run P X.w= .ok v X'.w∧Mem b X'∧X'.H=X.H.set nid (.live (.data e ty ((xs.drop off).take len++ys)))∧Le X X'∧RelD X' (.own nid 0 (len+List.length ys) none) v:=by
 obtain⟨i,zv,hi,hz',hs,ho,rfl⟩:=zeroD_some hz;have hsz':ty.size=i.size:=by rw[hsz];simp[Program.cellsOf,hi]
 obtain⟨A2,c2,vs,e2,h22,h23,h24,h25⟩:=src_data M rd hrd hx hu;subst e2;have hs1:=hs0;simp only[RelD] at hs1;rw[hget_live.1 hid] at hs1;obtain⟨hlen,A,c,ev,hc,hA,hk,hk2,hplace⟩:=hs1;have hc0:=hk 0 rfl;subst hc0;have hl0:len=0:=by omega
 subst hl0;subst ev;cases ys with
 |nil=>
  simp only[Reps] at h24;subst h24;obtain⟨M',L'⟩:=mem_virt M hf hl hn e ty;refine⟨.slice A 0 0,X.put nid (.live (.data e ty [])) none X.S X.w,run_append_none ht ht' hi X.w A A2 0 0 c2 (Nat.le_refl _) ?_,M',by simp;rfl,L',?_⟩
  ·exact run_firstCells_at (us:=[]) (by simp) (fun _=>rfl) h25 X.w rfl
  ·simp only[RelD];rw[slot_put X _ _ _ _ hl];exact⟨by simp,A,0,rfl,Nat.le_refl _,fun _=>rfl,by simp,by simp,.inl rfl⟩
 |cons y ys=>
  have:=s_append_grow (oty:=oty) (sLen:=0) (sCap:=0) (c2:=c2) (xs:=[]) (us:=[]) M hf hl hn ht ht' hi hz' hsz' hs ho (A:=A) (by simp[Reps]) h24 rfl (fun j u hj=>by simp at hj) h25 (fun _=>rfl) h23 (by simp) (by simpa using hroom) h0;simpa using this
end
section
variable {P:Program} {b:Beg} {X:Ctx}
theorem s_put_elems (M:Mem b X) {id off:Nat} {e:TypeId} {ty:Ty} {xs zs:List ty.El} {ws:List Value} (hid:hget X.H id=some (.data e ty xs)) {l:Loc} (hl:X.ρ id=some l)
  (hz:Reps (RelE X.S X.w ty) zs ws) (hfit:off+zs.length≤xs.length):
  ∃X',(storeCells ⟨l.b,l.o+off*ty.size,none⟩ ws).run P X.w= .ok () X'.w∧Mem b X'∧X'.H=X.H.set id (.live (.data e ty (xs.take off++zs++xs.drop (off+zs.length))))∧Le X X':=by
 have hrow:=M.rows id _ hid;rw[hl] at hrow;obtain⟨acs,bt,hb,hacn,he,us,hreps,hone,hbig,hacs⟩:=hrow;have hul:=reps_length hreps;have hwl:=reps_length hz;have hmul:(off+zs.length)*ty.size≤xs.length*ty.size:=Nat.mul_le_mul_right _ hfit;rw[Nat.add_mul] at hmul;have hnew:Reps (RelE X.S X.w ty) (xs.take off++zs++xs.drop (off+zs.length)) (us.take (off*ty.size)++ws++us.drop (off*ty.size+ws.length)):=by
  refine((hreps.take (RelE_length ty) off).append hz).append ?_;have:=hreps.drop (RelE_length ty) (off+zs.length);rwa [Nat.add_mul,←hwl] at this
 have hc':Content X (.data e ty (xs.take off++zs++xs.drop (off+zs.length))) l (acs.toList.take (l.o+off*ty.size)++ws++acs.toList.drop (l.o+off*ty.size+ws.length)).toArray bt:=by
  refine⟨?_,he,_,hnew,?_,?_,?_⟩
  ·rw[←hacn];rw[←hacn] at hbig;simp;omega
  ·exact reps_one hnew
  ·have:=reps_length hnew;rw[this,List.length_append,List.length_append,List.length_take,List.length_drop];have h5:min off xs.length+zs.length+(xs.length-(off+zs.length))=xs.length:=by omega
   rw[h5,←hul];exact hbig
  ·intro j w hj;rw[list_splice _ _ _ (by omega)] at hj;simp only[List.getElem?_toArray];have hacl:acs.toList.length=l.n:=by simpa using hacn
   rw[list_splice _ _ _ (by show l.o+off*ty.size+ws.length≤acs.toList.length;omega)];by_cases c1:j<off*ty.size
   ·rw[if_pos c1] at hj;rw[if_pos (by omega)];simpa using hacs _ _ hj
   ·rw[if_neg c1] at hj;rw[if_neg (by omega)];by_cases c2:j<off*ty.size+ws.length
    ·rw[if_pos c2] at hj;rw[if_pos (by omega),←hj];congr 1
     omega
    ·rw[if_neg c2] at hj;rw[if_neg (by omega)];simpa using hacs _ _ hj
 have hlen:(xs.take off++zs++xs.drop (off+zs.length)).length=xs.length:=by simp;omega
 obtain⟨X',hrun,M',hH,L',_⟩:=s_cells (P:=P) M hid hl (r:= .data e ty (xs.take off++zs++xs.drop (off+zs.length))) (by simp only[Comp,Row.dims,hlen]) (M.ok id (.data e ty xs) l hid hl) (no_inn (M.ok id (.data e ty xs) l hid hl)) hb (l.o+off*ty.size) ws (by rw[hacn];omega) (reps_one hz) hc';exact⟨X',hrun,M',hH,L'⟩
theorem at_take {S:Nat→Prop} {w:World} {A:Option Addr} {us:List Value} (h:At S w A us) (n:Nat):At S w A (us.take n):=fun j u hj=>by
 rw[List.getElem?_take] at hj;split at hj
 ·exact h j u hj
 ·cases hj
theorem s_copy (M:Mem b X) (rd:Nat→Option Row) (hrd:∀id r,rd id=some r→hget X.H id=some r)
  {t t' e oty:TypeId} {i:TypeInfo} (ht:P.underlying t=some (.slice e)) (hi:P.info? e=some i)
  {ty:Ty} (hsz:ty.size=i.size) {x:D} {ys:List ty.El} {u v0:Value} (hx:(Ty.sl ty).ofCells (rdDat rd) [x]=some ys) (hu:RelD X x u)
  {id off len:Nat} {cap:Option Nat} {xs:List ty.El} (hid:hget X.H id=some (.data e ty xs)) (hs0:RelD X (.own id off len cap) v0):
  ∃X',(Builtin.copy_ #[t,t'] oty #[v0,u]).run P X.w= .ok (.int .i64 ((min (List.length ys) len:Nat):Int)) X'.w∧Mem b X'∧
   X'.H=X.H.set id (.live (.data e ty (xs.take off++ys.take (min (List.length ys) len)++xs.drop (off+min (List.length ys) len))))∧Le X X':=by
 obtain⟨A2,c2,vs,e2,h22,h23,h24,h25⟩:=src_data M rd hrd hx hu;subst e2;simp only[RelD] at hs0;rw[hget_live.1 hid] at hs0;obtain⟨hlen,A,c,ev,hc,hA,hk,hk2,hplace⟩:=hs0;subst ev;have hvl:=reps_length h24;generalize hn:min (List.length ys) len=n
 have hn1:n≤List.length ys:=by omega
 have hn2:n≤len:=by omega
 have htl:(ys.take n).length=n:=by simp;omega
 have hvt:=h24.take (RelE_length ty) n;have hfn:=run_firstCells_at (P:=P) (c:=c2) (m:=n) (size:=i.size) (us:=vs.take (n*ty.size)) (by
   have:=reps_length hvt;rw[this,htl,hsz]) (fun e=>by rw[h23 e];simp) (at_take h25 _) X.w rfl
 have hfn':(Builtin.firstCells i.size n (.slice A2 (List.length ys) c2)).run P X.w= .ok (vs.take (n*ty.size)).toArray X.w:=by
  cases A2 with
  |none=>exact hfn
  |some a=>exact hfn
 have hmin:Nat.min (List.length ys) len=n:=hn;by_cases hc0:c=0
 ·have hn0:n=0:=by omega
  subst hn0;refine⟨X,?_,M,?_,Le.refl X⟩
  ·cases A with
   |none=>simp[Builtin.copy_,run_underlying ht,sizeOf,typeInfo,hi,Builtin.lenOf,hmin,hfn',goInt]
   |some a=>
    simp at hfn';simp[Builtin.copy_,run_underlying ht,sizeOf,typeInfo,hi,Builtin.lenOf,hmin,hfn',goInt,storeCells]
  ·have:xs.take off++ys.take 0++xs.drop (off+0)=xs:=by simp
   rw[this,set_self hid]
 ·obtain⟨l',hl0,hA1,hbound⟩:=hplace.resolve_left hc0;obtain⟨l,hl1,rfl⟩:=Ctx.pl_some hl0;subst hA1;obtain⟨X',hrun,M',hH,L'⟩:=s_put_elems (P:=P) M (off:=off) hid hl1 hvt (by rw[htl];omega);rw[htl] at hH;refine⟨X',?_,M',hH,L'⟩;simp[Builtin.copy_,run_underlying ht,sizeOf,typeInfo,hi,Builtin.lenOf,hmin,hfn',goInt,hrun]
theorem zeroCells_list (z:Array Value) (s:Nat) (hs:z.size=s) (h0:s≠0) (n:Nat):(Builtin.zeroCells z n).toList=(List.replicate n z.toList).flatten:=by
 have:=range_mod z.toList s (by simpa using hs) h0 n;rw[←this,Builtin.zeroCells,hs];simp
theorem s_clear (M:Mem b X) (rd:Nat→Option Row) (hrd:∀id r,rd id=some r→hget X.H id=some r)
  {t e oty:TypeId} {z:List D} (ht:P.underlying t=some (.slice e)) (hz:zeroD P e=some z) {ty:Ty} (hsz:ty.size=P.cellsOf e) (h0:ty.size≠0) {y:ty.El} (hy:ty.ofCells rd z=some y) {v0:Value}
  {id off len:Nat} {cap:Option Nat} {xs:List ty.El} (hid:hget X.H id=some (.data e ty xs)) (hs0:RelD X (.own id off len cap) v0):
  ∃X',(Builtin.clear_ #[t] oty #[v0]).run P X.w= .ok (.tuple #[]) X'.w∧Mem b X'∧X'.H=X.H.set id (.live (.data e ty (xs.take off++List.replicate len y++xs.drop (off+len))))∧Le X X':=by
 obtain⟨i,zv,hi,hz',hs,ho,rfl⟩:=zeroD_some hz;have hsz':ty.size=i.size:=by rw[hsz];simp[Program.cellsOf,hi]
 have hE:=(ofCells_rel M (fun _ h=>h) rd hrd ty _ _ _ hy (relDs_v zv.cells.toList) (fun id hid=>by
  rw[mem_killIds] at hid;obtain⟨_,_,_,hm⟩:=hid;simp at hm)).1
 have hreps:=Reps.replicate hE len;simp only[RelD] at hs0;rw[hget_live.1 hid] at hs0;obtain⟨hlen,A,c,ev,hc,hA,hk,hk2,hplace⟩:=hs0;subst ev;by_cases hc0:len=0
 ·subst hc0;refine⟨X,?_,M,?_,Le.refl X⟩
  ·cases A with
   |none=>simp[Builtin.clear_,run_underlying ht]
   |some a=>simp[Builtin.clear_,run_underlying ht]
  ·have:xs.take off++List.replicate 0 y++xs.drop (off+0)=xs:=by simp
   rw[this,set_self hid]
 ·obtain⟨l',hl0,hA1,hbound⟩:=hplace.resolve_left (by omega);obtain⟨l,hl1,rfl⟩:=Ctx.pl_some hl0;subst hA1;obtain⟨X',hrun,M',hH,L'⟩:=s_put_elems (P:=P) M (off:=off) hid hl1 hreps (by simp;omega);simp only[List.length_replicate] at hH;refine⟨X',?_,M',hH,L'⟩;have hzc:=zeroCells_list zv.cells i.size hs (by rw[←hsz'];exact h0) len;rw[←hzc] at hrun;obtain⟨m,rfl⟩:∃m,len=m+1:=⟨len-1,by omega⟩;simp[Builtin.clear_,run_underlying ht,zeroValue,typeInfo,hi,hz',hrun]
theorem run_eqGuard_val (op:BinOp) (t:TypeId) (x y:Operand) {a c:Value} (ha:a.oneCell'=true) (hn:a≠ .nilIface) (w:World):(eqGuard op t x y a c).run P w= .ok () w:=by
 unfold eqGuard;cases a<;>simp_all[Value.oneCell']<;>split<;>simp_all
theorem nilB_rel {d:D} {b:Bool} (h:nilB d=some b) {u:Value} (hr:RelD X d u):∃A n c,u= .slice A n c∧A.isNone=b:=by
 unfold nilB at h;split at h
 ·simp only[sI] at h;subst h;simp only[RelD] at hr;exact⟨_,_,_,hr,rfl⟩
 ·simp only[sI] at h;subst h;simp only[RelD] at hr;obtain⟨A,c,us,e,_,_,h4,_⟩:=hr;refine⟨A,_,c,e,?_⟩;have:=h4 trivial;cases A with
  |none=>exact absurd rfl this
  |some _=>rfl
 ·cases h
theorem run_eqlB (t:TypeId) (a c:Bool) (h:P.underlying t=some .bool) (w:World):(binOp .eql t (.bool a) (.bool c)).run P w= .ok (.bool (a==c)) w:=by
 show(do pure (.bool (←Op.equal t (.bool a) (.bool c))):Sem Value).run P w=_;rw[Sem.run_bind,run_equal_bool w t a c h];rfl
theorem run_neqB (t:TypeId) (a c:Bool) (h:P.underlying t=some .bool) (w:World):(binOp .neq t (.bool a) (.bool c)).run P w= .ok (.bool (!(a==c))) w:=by
 show(do pure (.bool (!(←Op.equal t (.bool a) (.bool c)))):Sem Value).run P w=_;rw[Sem.run_bind,run_equal_bool w t a c h];rfl
theorem run_eqlS (t e:TypeId) (A:Option Addr) (n c:Nat) (h:P.underlying t=some (.slice e)) (w:World):(binOp .eql t (.slice A n c) (.slice none 0 0)).run P w= .ok (.bool A.isNone) w:=by
 show(do pure (.bool (←Op.equal t (.slice A n c) (.slice none 0 0))):Sem Value).run P w=_;rw[Sem.run_bind,run_equal_slice_nil w t e A n c h];rfl
theorem run_neqS (t e:TypeId) (A:Option Addr) (n c:Nat) (h:P.underlying t=some (.slice e)) (w:World):(binOp .neq t (.slice A n c) (.slice none 0 0)).run P w= .ok (.bool (!A.isNone)) w:=by
 show(do pure (.bool (!(←Op.equal t (.slice A n c) (.slice none 0 0)))):Sem Value).run P w=_;rw[Sem.run_bind,run_equal_slice_nil w t e A n c h];rfl
theorem drop_head {α:Type} {l:List α} {o:Nat} {u:α} {us:List α} (h:l.drop o=u::us):l[o]? =some u∧l.drop (o+1)=us:=by
 have h1:(l.drop o)[0]? =some u:=by rw[h];rfl
 rw[List.getElem?_drop] at h1;refine⟨h1,?_⟩;rw[←List.drop_drop,h];rfl
theorem run_eqCells (w:World) (d:Nat):∀(fs:List Field) (o:Nat) (xs ys:List D) (us vs:List Value) (U V:Array Value) (r:Bool),eqCells P fs o xs ys=some r→RelDs X xs us→RelDs X ys vs→U.toList.drop o=us→V.toList.drop o=vs→(Op.eqFields (d+1) U V fs).run P w= .ok r w
 |fs,o,xs,ys,us,vs,U,V,r,h,hx,hy,hU,hV=>by
  unfold eqCells at h;split at h
  ·simp only[sI] at h;subst h;rfl
  ·rename_i f fs k a xs k' b ys;split at h
   ·rename_i kk hu;split at h
    ·rename_i hc;obtain⟨rfl,hn,rfl⟩:=hc;rw[Option.map_eq_some_iff] at h;obtain⟨r',h',rfl⟩:=h;simp only[RelDs,RelD] at hx hy;obtain⟨u,us',rfl,rfl,hx'⟩:=hx;obtain⟨v,vs',rfl,rfl,hy'⟩:=hy;obtain⟨e1,e2⟩:=drop_head hU;obtain⟨e3,e4⟩:=drop_head hV;have ih:=run_eqCells w d fs _ xs ys us' vs' U V r' h' hx' hy' e2 e4;have p1:(part f.type U f.offset).run P w= .ok (.int k a) w:=by
      have:U[f.offset]? =some (.int k a):=by rw[←Array.getElem?_toList];exact e1
      simp[part,isAgg,run_underlying hu,this]
     have p2:(part f.type V f.offset).run P w= .ok (.int k b) w:=by
      have:V[f.offset]? =some (.int k b):=by rw[←Array.getElem?_toList];exact e3
      simp[part,isAgg,run_underlying hu,this]
     simp only[Op.eqFields];rw[if_pos hn,Sem.run_bind,p1,Result.andThen_ok,Sem.run_bind,p2,Result.andThen_ok,Sem.run_bind,run_equalIn_int w d f.type k kk a b hu,Result.andThen_ok];cases hab:(a==b) with
     |false=>rfl
     |true=>
      simp only[Bool.not_true,Bool.false_eq_true,if_false,Bool.true_and];exact ih
    ·cases h
   ·cases h
  ·rename_i f fs a xs b ys;split at h
   ·rename_i hu;split at h
    ·rename_i hc;obtain⟨rfl,hn⟩:=hc;rw[Option.map_eq_some_iff] at h;obtain⟨r',h',rfl⟩:=h;simp only[RelDs,RelD] at hx hy;obtain⟨u,us',rfl,rfl,hx'⟩:=hx;obtain⟨v,vs',rfl,rfl,hy'⟩:=hy;obtain⟨e1,e2⟩:=drop_head hU;obtain⟨e3,e4⟩:=drop_head hV;have ih:=run_eqCells w d fs _ xs ys us' vs' U V r' h' hx' hy' e2 e4;have p1:(part f.type U f.offset).run P w= .ok (.bool a) w:=by
      have:U[f.offset]? =some (.bool a):=by rw[←Array.getElem?_toList];exact e1
      simp[part,isAgg,run_underlying hu,this]
     have p2:(part f.type V f.offset).run P w= .ok (.bool b) w:=by
      have:V[f.offset]? =some (.bool b):=by rw[←Array.getElem?_toList];exact e3
      simp[part,isAgg,run_underlying hu,this]
     simp only[Op.eqFields];rw[if_pos hn,Sem.run_bind,p1,Result.andThen_ok,Sem.run_bind,p2,Result.andThen_ok,Sem.run_bind,run_equalIn_bool' w d f.type a b hu,Result.andThen_ok];cases hab:(a==b) with
     |false=>rfl
     |true=>
      simp only[Bool.not_true,Bool.false_eq_true,if_false,Bool.true_and];exact ih
    ·cases h
   ·cases h
  ·cases h
theorem run_equal_cells {t:TypeId} {fs:Array Field} {xs ys:List D} {x y:Value} {r:Bool} (hu:P.underlying t=some (.struct fs)) (hs:P.stoodInHeld t=false) (h:eqCells P fs.toList 0 xs ys=some r) (hx:RelD X (.agg xs) x) (hy:RelD X (.agg ys) y) (w:World):
  ∃us vs,x= .agg us∧y= .agg vs∧(Op.equalIn 10000 t (.agg us) (.agg vs)).run P w= .ok r w:=by
 simp only[RelD] at hx hy;obtain⟨us,rfl,hx⟩:=hx;obtain⟨vs,rfl,hy⟩:=hy;have hf:P.fieldsOf t=fs:=by simp[Program.fieldsOf,hu]
 refine⟨_,_,rfl,rfl,?_⟩;rw[run_equalIn_struct w 9999 t _ _ (by rw[hf];exact hu) hs,hf];exact run_eqCells (X:=X) w 9998 fs.toList 0 xs ys us vs _ _ r h hx hy (by simp) (by simp)
theorem s_eq {op:BinOp} {dx dy:D} {x y:Value} {t:TypeId} {v:Value} (h:eqD P op t dx dy=some v) (hx:RelD X dx x) (hy:RelD X dy y) (ox oy:Operand):
  (do eqGuard op t ox oy x y;binOp op t x y:Sem Value).run P X.w= .ok v X.w:=by
 unfold eqD at h;split at h
 ·rename_i a c hu;simp only[RelD] at hx hy;subst hx;subst hy;simp only[sI] at h;subst h;rw[Sem.run_bind,run_eqGuard_val _ _ _ _ rfl (by simp)];exact run_eqlB t a c hu X.w
 ·rename_i a c hu;simp only[RelD] at hx hy;subst hx;subst hy;simp only[sI] at h;subst h;rw[Sem.run_bind,run_eqGuard_val _ _ _ _ rfl (by simp)];exact run_neqB t a c hu X.w
 ·rename_i a c hu;simp only[RelD] at hx hy;subst hx;subst hy;simp only[sI] at h;subst h;rw[Sem.run_bind,run_eqGuard_val _ _ _ _ rfl (by simp)];rfl
 ·rename_i a c hu;simp only[RelD] at hx hy;subst hx;subst hy;simp only[sI] at h;subst h;rw[Sem.run_bind,run_eqGuard_val _ _ _ _ rfl (by simp)];rfl
 ·rename_i e hu;simp only[RelD] at hy;subst hy;rw[Option.map_eq_some_iff] at h;obtain⟨b,hb,rfl⟩:=h;obtain⟨A,n,c,rfl,rfl⟩:=nilB_rel hb hx;rw[Sem.run_bind,run_eqGuard_val _ _ _ _ rfl (by simp)];exact run_eqlS t e A n c hu X.w
 ·rename_i e hu;simp only[RelD] at hy;subst hy;rw[Option.map_eq_some_iff] at h;obtain⟨b,hb,rfl⟩:=h;obtain⟨A,n,c,rfl,rfl⟩:=nilB_rel hb hx;rw[Sem.run_bind,run_eqGuard_val _ _ _ _ rfl (by simp)];exact run_neqS t e A n c hu X.w
 ·rename_i fs xs ys hu;split at h
  ·rename_i hc;rw[Option.map_eq_some_iff] at h;obtain⟨b,hb,rfl⟩:=h;obtain⟨us,vs,rfl,rfl,he⟩:=run_equal_cells (X:=X) hu hc.1 hb hx hy X.w;rw[Sem.run_bind,run_eqGuard_agg X.w _ _ _ _ us vs hc.2,Result.andThen_ok,run_eql_struct,he];rfl
  ·cases h
 ·rename_i fs xs ys hu;split at h
  ·rename_i hc;rw[Option.map_eq_some_iff] at h;obtain⟨b,hb,rfl⟩:=h;obtain⟨us,vs,rfl,rfl,he⟩:=run_equal_cells (X:=X) hu hc.1 hb hx hy X.w;rw[Sem.run_bind,run_eqGuard_agg X.w _ _ _ _ us vs hc.2,Result.andThen_ok,run_neq_struct,he];rfl
  ·cases h
 ·cases h
theorem s_bin {op:BinOp} {dx dy:D} {x y:Value} {t:TypeId} {v:Value} {ps:List Prop} (h:binD op dx dy=some (v,ps)) (hx:RelD X dx x) (hy:RelD X dy y) (hps:∀p∈ps,p) (ox oy:Operand):
  (do eqGuard op t ox oy x y;binOp op t x y:Sem Value).run P X.w= .ok v X.w:=by
 unfold binD at h;split at h
 ·rename_i k a yk c;simp only[RelD] at hx hy;subst hx;subst hy;simp only[sI,Prod.mk.injEq] at h;obtain⟨rfl,rfl⟩:=h;have hb:=hps _ (List.mem_singleton.2 rfl);rw[Sem.run_bind,run_eqGuard_val _ _ _ _ rfl (by simp)];simp[binOp,Op.shift,hb]
 ·rename_i k a yk c;simp only[RelD] at hx hy;subst hx;subst hy;simp only[sI,Prod.mk.injEq] at h;obtain⟨rfl,rfl⟩:=h;have hb:=hps _ (List.mem_singleton.2 rfl);rw[Sem.run_bind,run_eqGuard_val _ _ _ _ rfl (by simp)];simp[binOp,Op.shift,hb]
 ·rename_i a c;simp only[RelD] at hx hy;subst hx;subst hy;simp only[sI,Prod.mk.injEq] at h;obtain⟨rfl,rfl⟩:=h;have hb:=hps _ (List.mem_singleton.2 rfl);rw[Sem.run_bind,run_eqGuard_val _ _ _ _ rfl (by simp)];simp only[binOp,Op.stringOp,if_neg hb];rfl
 ·rename_i k a k' c h1 h2;split at h
  ·rename_i hk;subst hk;simp only[RelD] at hx hy;subst hx;subst hy;rw[Sem.run_bind,run_eqGuard_val _ _ _ _ rfl (by simp)];unfold binI at h;cases op<;>simp at h
   all_goals first
    |(obtain⟨rfl,rfl⟩:=h;simp[binOp,Op.intArith,Op.intCmp,Op.intBits];done)
    |(obtain⟨rfl,rfl⟩:=h;have hb:=hps _ (List.mem_singleton.2 rfl);simp[binOp,Op.intDiv,hb];done)
    |(obtain⟨rfl,rfl⟩:=h;simp[binOp,Op.intArith,Op.intCmp,Op.intBits])
  ·cases h
 ·cases h
end
section
variable {P:Program} {b:Beg} {X:Ctx}
theorem s_append_closed (M:Mem b X) {nid:Nat} (hf:slot X.H nid= .free) (hl:nid<X.H.length) (hn:b.n≤nid) (rd:Nat→Option Row) (hrd:∀id r,rd id=some r→hget X.H id=some r)
  {t t' e e' oty:TypeId} {z:List D} (ht:P.underlying t=some (.slice e)) (ht':P.underlying t'=some (.slice e')) (hz:zeroD P e=some z)
  {ty:Ty} (hsz:ty.size=P.cellsOf e) (h0:ty.size≠0) {x:D} {ys:List ty.El} {u v0:Value} (hx:(Ty.sl ty).ofCells (rdDat rd) [x]=some ys) (hu:RelD X x u)
  {nn:Bool} (hs0:RelD X (.sl nn true ty []) v0) (hroom:roomy P e (List.length ys)):
  ∃v X',(Builtin.append_ #[t,t'] oty #[v0,u]).run P X.w= .ok v X'.w∧Mem b X'∧X'.H=X.H.set nid (.live (.data e ty ys))∧Le X X'∧RelD X' (.own nid 0 (List.length ys) none) v:=by
 obtain⟨i,zv,hi,hz',hs,ho,rfl⟩:=zeroD_some hz;have hsz':ty.size=i.size:=by rw[hsz];simp[Program.cellsOf,hi]
 obtain⟨A2,c2,vs,e2,h22,h23,h24,h25⟩:=src_data M rd hrd hx hu;subst e2;simp only[RelD] at hs0;obtain⟨A,c,us,ev,hc,hA,_,hk,hr0,hat⟩:=hs0;have hc0:c=0:=by simpa using hk trivial
 subst hc0;subst ev;simp only[Reps] at hr0;subst hr0;cases ys with
 |nil=>
  simp only[Reps] at h24;subst h24;obtain⟨M',L'⟩:=mem_virt M hf hl hn e ty;refine⟨.slice A 0 0,X.put nid (.live (.data e ty [])) none X.S X.w,run_append_none ht ht' hi X.w A A2 0 0 c2 (Nat.le_refl _) ?_,M',rfl,L',?_⟩
  ·exact run_firstCells_at (us:=[]) (by simp) (fun _=>rfl) h25 X.w rfl
  ·simp only[RelD];rw[slot_put X _ _ _ _ hl];exact⟨by simp,A,0,rfl,Nat.le_refl _,fun _=>rfl,by simp,by simp,.inl rfl⟩
 |cons y ys=>
  have:=s_append_grow (oty:=oty) (sLen:=0) (sCap:=0) (c2:=c2) (xs:=[]) (us:=[]) M hf hl hn ht ht' hi hz' hsz' hs ho (A:=A) (by simp[Reps]) h24 rfl (fun j u hj=>by simp at hj) h25 (fun _=>rfl) h23 (by simp) (by simpa using hroom) h0;simpa using this
def Step (P:Program) (b:Beg) (X:Ctx) (nid:Nat) (o:Oper) (va:Operand→Value) (E:Eff):Prop:=
 ∃nx v X',(execOp va o).run P X.w= .ok nx X'.w∧(nx= .value v∨nx= .skip∧v=undef)∧Mem b X'∧
  X'.H=setWrites (setAllocs X.H nid E.allocs) E.writes∧Le X X'∧RelD X' E.val v
theorem run_v {s:Sem Value} {v:Value} {w w':World} (h:s.run P w= .ok v w'):(do pure (.value (←s)):Sem Next).run P w= .ok (.value v) w':=by simp[h]
theorem run_u {s:Sem Unit} {w w':World} (h:s.run P w= .ok () w'):(do s;pure .skip:Sem Next).run P w= .ok .skip w':=by simp[h]
theorem step_pure (M:Mem b X) {nid:Nat} {o:Oper} {va:Operand→Value} {d:D} {obl:List Prop} {v:Value} (hr:(execOp va o).run P X.w= .ok (.value v) X.w) (h:RelD X d v):Step P b X nid o va {val:=d,obl:=obl}:=
 ⟨_,v,X,hr,.inl rfl,M,rfl,Le.refl X,h⟩
def Free (X:Ctx) (nid n:Nat):Prop:=∀j,j<n→slot X.H (nid+j)= .free∧nid+j<X.H.length
theorem Free.one {nid:Nat} (h:Free X nid 1):slot X.H nid= .free∧nid<X.H.length:=h 0 (by omega)
theorem sizeB_some {t:TypeId} {s:Nat} (h:sizeB P t=some s):∃i,P.info? t=some i∧(P.underlying t).isSome=true∧s=i.size:=by
 unfold sizeB at h;split at h
 ·rename_i hu;rw[Option.map_eq_some_iff] at h;obtain⟨i,hi,rfl⟩:=h;exact⟨i,hi,hu,rfl⟩
 ·cases h
variable {nid:Nat} {sp:Sp} {o:Oper} {ev:Operand→D} {va:Operand→Value} {E:Eff} {rd:Nat→Option Row}
theorem op_move (M:Mem b X) (hev:∀x,RelD X (ev x) (va x)) {x:Operand} (ho:o.op= .move x∨o.op= .assign x) (h:opEff P rd nid sp o ev=some E):Step P b X nid o va E:=by
 rcases ho with ho|ho
 all_goals
  simp only[opEff,ho,sI] at h;subst h;exact step_pure M (v:=va x) (by simp[execOp,ho]) (hev x)
theorem op_pick (M:Mem b X) (hev:∀x,RelD X (ev x) (va x)) {c x y:Operand} (ho:o.op= .pick c x y) (h:opEff P rd nid sp o ev=some E):Step P b X nid o va E:=by
 simp only[opEff,ho] at h;split at h
 ·rename_i t hc;have hc':=hev c;rw[hc] at hc';simp only[RelD] at hc';have hx:=hev x;have hy:=hev y;split at h
  ·rename_i p q hp hq;rw[hp] at hx;rw[hq] at hy;simp only[RelD] at hx hy;simp only[sI] at h;subst h;refine step_pure M (v:= .bool (cond t p q)) ?_ (by simp only[RelD]);cases t<;>simp[execOp,ho,hc',hx,hy,asBool]
  ·split at h
   all_goals
    simp only[sI] at h;subst h
   ·exact step_pure M (v:=va x) (by simp[execOp,ho,hc',asBool]) hx
   ·exact step_pure M (v:=va y) (by simp[execOp,ho,hc',asBool]) hy
 ·cases h
theorem op_alloc (M:Mem b X) {t:TypeId} (ho:o.op= .alloc t) (h:opEff P rd nid sp o ev=some E) (hf:Free X nid E.allocs.length) (hn:b.n≤nid):Step P b X nid o va E:=by
 simp only[opEff,ho,Option.map_eq_some_iff] at h;obtain⟨cs,hz,rfl⟩:=h;obtain⟨v,X',h1,h2,h3,h4,h5⟩:=s_alloc (P:=P) M hf.one.1 hf.one.2 hn hz;exact⟨_,v,X',by simp only[execOp,ho];exact run_v h1,.inl rfl,h2,h3,h4,h5⟩
theorem op_box (M:Mem b X) (hev:∀x,RelD X (ev x) (va x)) {t:TypeId} {x:Operand} (ho:o.op= .box t x) (h:opEff P rd nid sp o ev=some E) (hf:Free X nid E.allocs.length) (hn:b.n≤nid):Step P b X nid o va E:=by
 simp only[opEff,ho,Option.map_eq_some_iff] at h;obtain⟨cs,hz,rfl⟩:=h;obtain⟨v,X',h1,h2,h3,h4,h5⟩:=s_box (P:=P) M hf.one.1 hf.one.2 hn t hz (hev x);exact⟨_,v,X',by simp only[execOp,ho];exact run_v h1,.inl rfl,h2,h3,h4,h5⟩
theorem op_build (M:Mem b X) (hev:∀x,RelD X (ev x) (va x)) {t:TypeId} {parts:Array (Nat×Operand)} (ho:o.op= .build t parts) (h:opEff P rd nid sp o ev=some E):Step P b X nid o va E:=by
 simp only[opEff,ho] at h;split at h
 ·rename_i fs z hu hz;split at h
  ·rename_i places hp;rw[Option.map_eq_some_iff] at h;obtain⟨cs,hc,rfl⟩:=h;obtain⟨v,h1,h2⟩:=s_build_struct hev hu hz parts hp hc;exact step_pure M (by simp only[execOp,ho];exact run_v h1) h2
  ·cases h
 ·rename_i n e z hu hz;split at h
  ·rename_i ie hie;rw[Option.map_eq_some_iff] at h;obtain⟨cs,hc,rfl⟩:=h;obtain⟨v,h1,h2⟩:=s_build_array hev hu hz parts hie hc;exact step_pure M (by simp only[execOp,ho];exact run_v h1) h2
  ·cases h
 ·cases h
theorem op_buildSlice (M:Mem b X) (hev:∀x,RelD X (ev x) (va x)) (hrd:∀id r,rd id=some r→hget X.H id=some r) {t:TypeId} {len:Nat} {parts:Array (Nat×Operand)} (ho:o.op= .buildSlice t len parts) (h:opEff P rd nid sp o ev=some E) (hf:Free X nid E.allocs.length) (hn:b.n≤nid):Step P b X nid o va E:=by
 simp only[opEff,ho] at h;split at h
 ·rename_i e hu;split at h
  ·rename_i ty z _ hz;split at h
   ·rename_i hg;simp only[Bool.and_eq_true,decide_eq_true_eq] at hg;split at h
    ·rename_i cs hc;split at h
     ·simp only[sI] at h;subst h;obtain⟨v,X',h1,h2,h3,h4,h5⟩:=s_buildSlice_box (P:=P) M hf.one.1 hf.one.2 hn hev hu hz len parts hg.1.1 (by simpa using hg.1.2) hg.2 hc;exact⟨_,v,X',by simp only[execOp,ho];exact run_v h1,.inl rfl,h2,h3,h4,h5⟩
     split at h
     ·rename_i xs hxs;split at h
      ·rename_i hnd;split at h
       ·simp only[sI] at h;subst h;obtain⟨v,X',h1,h2,h3,h4,h5⟩:=s_buildSlice (P:=P) M hf.one.1 hf.one.2 hn rd hrd hev hu hz len parts hg.1.1 (by simpa using hg.1.2) hg.2 hc hxs hnd;exact⟨_,v,X',by simp only[execOp,ho];exact run_v h1,.inl rfl,h2,h3,h4,h5⟩
       ·rename_i k _;split at h
        ·rename_i hk;subst hk;split at h
         ·rename_i hg2;simp only[Bool.and_eq_true,decide_eq_true_eq] at hg2;simp only[sI] at h;subst h;obtain⟨v,X',h1,h2,h3,h4,h5⟩:=s_buildSlice_nest (P:=P) M hf.one.1 hf.one.2 hn rd hrd hev hu hg2.1.2 hg2.1.1 hz len parts hg.1.1 (by simpa using hg.1.2) hg.2 hc hxs hnd hg2.2;exact⟨_,v,X',by simp only[execOp,ho];exact run_v h1,.inl rfl,h2,h3,h4,h5⟩
         ·cases h
        ·cases h
      ·cases h
     ·cases h
    ·cases h
   ·cases h
  ·cases h
 ·cases h
theorem op_load (M:Mem b X) (hev:∀x,RelD X (ev x) (va x)) (hrd:∀id r,rd id=some r→hget X.H id=some r) {t:TypeId} {x:Operand} (ho:o.op= .load t x) (h:opEff P rd nid sp o ev=some E) (hob:∀p∈E.obl,p) (hf:Free X nid E.allocs.length) (hn:b.n≤nid):Step P b X nid o va E:=by
 simp only[opEff,ho] at h;split at h
 ·rename_i s hs;obtain⟨i,hi,hu,rfl⟩:=sizeB_some hs;have hx:=hev x;split at h
  ·rename_i id k off he;rw[he] at hx;split at h
   ·rename_i bt cs hr;split at h
    ·rename_i hfit;rw[Option.map_eq_some_iff] at h;obtain⟨d,hd,rfl⟩:=h;obtain⟨v,h1,h2⟩:=s_load_box (P:=P) M hi hu hx (hrd _ _ hr) hfit hd;exact step_pure M (by simp only[execOp,ho];exact run_v h1) h2
    ·cases h
   ·rename_i bt ty xs hr;split at h
    ·rename_i hfit;rw[Option.map_eq_some_iff] at h;obtain⟨d,hd,rfl⟩:=h;obtain⟨v,h1,h2⟩:=s_load_data (P:=P) M hi hu hx (hrd _ _ hr) hfit (hob _ (List.mem_singleton.2 rfl)) hd;exact step_pure M (by simp only[execOp,ho];exact run_v h1) h2
    ·cases h
   ·rename_i kk xs hh hr;split at h
    ·rename_i hfit;split at h
     ·rename_i hnc;rw[Option.map_eq_some_iff] at h;obtain⟨d,hd,rfl⟩:=h;simp only[Bool.or_eq_true,decide_eq_true_eq] at hnc;rw[←set_drop (kk.t.cells (xs.getD k kk.t.dflt)) kk.p off i.size .top hnc] at hd;obtain⟨v,h1,h2⟩:=s_load_nest (P:=P) M hi hu hx (hrd _ _ hr) hfit (hob _ (List.mem_singleton.2 rfl)) (fun _ _ _ _ _ _ _=>by simp only[RelD]) hd;exact step_pure M (by simp only[execOp,ho];exact run_v h1) h2
     ·split at h
      ·rename_i xs' ws _ hun;rw[Option.map_eq_some_iff] at h;obtain⟨d,hd,rfl⟩:=h;have hob1:k<xs.length:=hob _ (List.mem_singleton.2 rfl);have hr0:=hrd _ _ hr;obtain⟨X1,M1,L1,hw1,hS1,hH1,hlen1,ids,rfl,hnd,hids⟩:=mem_unf M hrd hr0 hun;have hidl:id<X.H.length:=lt_of_slot (by rw[hget_live.1 hr0];simp);have hne:nid≠id:=hget_ne_free hr0 hf.one.1;have hni:nid∉ids:=fun h=>by
        obtain⟨e,t,zs,hrr⟩:=hids nid h;exact hget_ne_free hrr hf.one.1 rfl
       have hid':id∉ids:=fun h=>by
        obtain⟨e,t,zs,hrr⟩:=hids id h;rw[hr0] at hrr;cases hrr
       have hr1:hget X1.H id=some (.nest kk xs' none):=by
        rw[hget_live,hH1,slot_set,if_pos ⟨rfl,by rw[setWrites_length];exact hidl⟩]
       have hf1:slot X1.H nid= .free:=by
        rw[hH1,slot_set,if_neg (fun e=>hne e.1.symm),slot_gone,if_neg (fun e=>hni e.1)];exact hf.one.1
       have hl1:nid<X1.H.length:=by rw[hH1,List.length_set,setWrites_length];exact hf.one.2
       obtain⟨X2,M2,L2,hw2,hS2,hH2⟩:=mem_focus M1 hr1 (i:=k) (by rw[hlen1];exact hob1) hf1 hl1 hn;generalize hys:kk.t.getP (xs'.getD k kk.t.dflt) kk.p kk.u=ys at*
       have hr2:hget X2.H id=some (.nest kk xs' (some (k,.own nid 0 ys.length none))):=by
        rw[hget_live,hH2,slot_set,if_pos ⟨rfl,by rw[List.length_set,hH1,List.length_set,setWrites_length];exact hidl⟩]
       obtain⟨v,h1,h2⟩:=s_load_nest (P:=P) M2 hi hu ((L1.trans L2).d hx) hr2 hfit (by rw[hlen1];exact hob1) (dc:= .own nid 0 ys.length none) (fun l cs us v hl N hv=>by
        obtain⟨v',hv',hin⟩:=(N.el k _ (by simp[gE,hlen1,hob1]:xs'[k]? =some (xs'.getD k kk.t.dflt))).inn;rw[hv] at hv';cases hv';have e0:holeAt (some (k,D.own nid 0 ys.length none)) k=some (.own nid 0 ys.length none):=by simp[holeAt]
        rw[e0] at hin;exact hin.2) hd
       rw[hw2,hw1] at h1;refine⟨_,v,X2,?_,.inl rfl,M2,?_,L1.trans L2,h2⟩
       ·rw[hw2,hw1];simp only[execOp,ho];exact run_v h1
       ·refine heap_ext (by simp[hH2,hH1,setWrites_length,setAllocs]) fun j hj=> ?_;simp only[setAllocs];rw[hH2,hH1,setWrites_append];simp only[setWrites,slotOf];simp only[slot_set,slot_gone,List.length_set,setWrites_length];have hj':j<X.H.length:=by simpa [hH2,hH1,setWrites_length] using hj
        have hnl:nid<X.H.length:=hf.one.2;by_cases e1:id=j
        ·subst e1;simp[hidl]
        ·by_cases e2:nid=j
         ·subst e2;simp[e1,hni,hnl]
         ·by_cases e3:j∈ids<;>simp[e1,e2,e3,hj']
      ·cases h
    ·cases h
   ·cases h
  ·rename_i cs he;rw[he] at hx;split at h
   ·rename_i hfit;rw[Option.map_eq_some_iff] at h;obtain⟨d,hd,rfl⟩:=h;obtain⟨v,h1,h2⟩:=s_load_ro (P:=P) hi hu hx hfit hd;exact step_pure M (by simp only[execOp,ho];exact run_v h1) h2
   ·cases h
  ·cases h
 ·cases h
theorem op_store (M:Mem b X) (hev:∀x,RelD X (ev x) (va x)) (hrd:∀id r,rd id=some r→hget X.H id=some r) {t:TypeId} {x y:Operand} (ho:o.op= .store t x y) (h:opEff P rd nid sp o ev=some E) (hob:∀p∈E.obl,p):Step P b X nid o va E:=by
 simp only[opEff,ho] at h;split at h
 ·rename_i s cs hs hc;obtain⟨i,hi,hu,rfl⟩:=sizeB_some hs;have hx:=hev x;split at h
  ·rename_i hcl;split at h
   ·rename_i id k off he;rw[he] at hx;split at h
    ·rename_i bt old hr;split at h
     ·rename_i hfit;simp only[sI] at h;subst h;obtain⟨X',h1,h2,h3,h4⟩:=s_store_box (P:=P) M hi hx (hrd _ _ hr) hc (hev y) hcl hfit;exact⟨_,undef,X',by simp only[execOp,ho];exact run_u h1,.inr ⟨rfl,rfl⟩,h2,h3,h4,by simp only[RelD]⟩
     ·cases h
    ·rename_i e ty xs hr;split at h
     ·rename_i hg;simp only[Bool.and_eq_true,decide_eq_true_eq] at hg;split at h
      ·rename_i z hz;simp only[sI] at h;subst h;obtain⟨X',h1,h2,h3,h4⟩:=s_store_data (P:=P) M rd hrd hi hx (hrd _ _ hr) hc (hev y) hcl hg.1 hg.2 (hob _ (List.mem_singleton.2 rfl)) hz;exact⟨_,undef,X',by simp only[execOp,ho];exact run_u h1,.inr ⟨rfl,rfl⟩,h2,h3,h4,by simp only[RelD]⟩
      ·cases h
     ·cases h
    ·rename_i kk xs hh hr;split at h
     ·rename_i _ d;split at h
      ·rename_i hg;simp only[Bool.and_eq_true,decide_eq_true_eq] at hg;obtain⟨rfl,_⟩:=hg;have hr0:=hrd _ _ hr;have hidl:id<X.H.length:=lt_of_slot (by rw[hget_live.1 hr0];simp);obtain⟨hcs,hall⟩:=cellsOf_rel hc (hev y);have hcb:cellB d=true:=by simpa using hall
       have hs1:i.size=1:=by simpa using hcl.symm
       split at h
       ·rename_i j hsm;simp only[sI] at h;subst h;have hob1:k<xs.length:=hob _ (by simp);have hob2:k=j:=hob (k=j) (by simp);subst hob2;have hhj:∀q,q≠k→holeAt hh q=none:=by
         intro q hq;unfold sameH at hsm;split at hsm
         ·rename_i i2 r _ _ _;have:i2=k:=by
           split at hsm
           ·split at hsm
            ·exact Option.some.inj hsm
            ·split at hsm
             ·exact Option.some.inj hsm
             ·cases hsm
           ·split at hsm
            ·exact Option.some.inj hsm
            ·cases hsm
          simp only[holeAt];rw[if_neg (by omega)]
         ·cases hsm
        obtain⟨X',h1,h2,h3,h4⟩:=s_store_nest (P:=P) M hi hx hr0 hhj hob1 hcs hcb hs1;exact⟨_,undef,X',by simp only[execOp,ho];exact run_u h1,.inr ⟨rfl,rfl⟩,h2,h4,h3,by simp only[RelD]⟩
       ·split at h
        ·rename_i xs' ws hun;simp only[sI] at h;subst h;have hob1:k<xs.length:=hob _ (by simp);obtain⟨X1,M1,L1,hw1,hS1,hH1,hlen1,ids,rfl,hnd,hids⟩:=mem_unf M hrd hr0 hun;have hr1:hget X1.H id=some (.nest kk xs' none):=by
          rw[hget_live,hH1,slot_set,if_pos ⟨rfl,by rw[setWrites_length];exact hidl⟩]
         obtain⟨X',h1,h2,h3,h4⟩:=s_store_nest (P:=P) M1 hi (L1.d hx) hr1 (fun _ _=>rfl) (by rw[hlen1];exact hob1) (L1.ds hcs) hcb hs1;rw[hw1] at h1;refine⟨_,undef,X',by simp only[execOp,ho];exact run_u h1,.inr ⟨rfl,rfl⟩,h2,?_,L1.trans h3,by simp only[RelD]⟩;rw[h4,hH1,List.set_set,setWrites_append];rfl
        ·cases h
      ·cases h
     ·cases h
    ·cases h
   ·cases h
  ·cases h
 ·cases h
theorem op_nilCheck (M:Mem b X) (hev:∀x,RelD X (ev x) (va x)) (hrd:∀id r,rd id=some r→hget X.H id=some r) {x:Operand} (ho:o.op= .nilCheck x) (h:opEff P rd nid sp o ev=some E):Step P b X nid o va E:=by
 simp only[opEff,ho] at h;have hx:=hev x;split at h
 ·rename_i id k off he;rw[he] at hx;split at h
  ·rename_i r hr;simp only[sI] at h;subst h;have hx':=hx;simp only[RelD] at hx';rw[hget_live.1 (hrd _ _ hr)] at hx';obtain⟨l,_,hv⟩:=hx';exact step_pure M (v:=va x) (by simp[execOp,ho,hv]) hx
  ·cases h
 ·rename_i cs he;rw[he] at hx;simp only[sI] at h;subst h;have hx':=hx;simp only[RelD] at hx';obtain⟨a,us,hv,_⟩:=hx';exact step_pure M (v:=va x) (by simp[execOp,ho,hv]) hx
 ·cases h
theorem op_bin (M:Mem b X) (hev:∀x,RelD X (ev x) (va x)) {op:BinOp} {t t':TypeId} {x y:Operand} (ho:o.op= .binOp op t x y t') (h:opEff P rd nid sp o ev=some E) (hob:∀p∈E.obl,p):Step P b X nid o va E:=by
 simp only[opEff,ho] at h;split at h
 ·rename_i v ps hb;simp only[sI] at h;subst h;refine step_pure M (v:=v) ?_ (by simp only[RelD]);simp only[execOp,ho];exact run_v (s_bin hb (hev x) (hev y) hob x y)
 ·rw[Option.map_eq_some_iff] at h;obtain⟨v,h,rfl⟩:=h;refine step_pure M (v:=v) ?_ (by simp only[RelD]);simp only[execOp,ho];exact run_v (s_eq h (hev x) (hev y) x y)
theorem op_un (M:Mem b X) (hev:∀x,RelD X (ev x) (va x)) {op:UnOp} {t:TypeId} {x:Operand} (ho:o.op= .unOp op t x) (h:opEff P rd nid sp o ev=some E):Step P b X nid o va E:=by
 simp only[opEff,ho] at h;have hx:=hev x;split at h
 ·rename_i c he;rw[he] at hx;simp only[RelD] at hx;simp only[sI] at h;subst h;exact step_pure M (v:= .bool !c) (by simp[execOp,ho,hx,Op.unary]) (by simp only[RelD])
 ·rename_i k n he;rw[he] at hx;simp only[RelD] at hx;simp only[sI] at h;subst h;exact step_pure M (v:= .int k (k.wrap (0-n))) (by simp[execOp,ho,hx,Op.unary,Op.intArith]) (by simp only[RelD])
 ·cases h
theorem op_convert (M:Mem b X) (hev:∀x,RelD X (ev x) (va x)) {s t:TypeId} {x:Operand} (ho:o.op= .convert s t x) (h:opEff P rd nid sp o ev=some E) (hob:∀p∈E.obl,p):Step P b X nid o va E:=by
 simp only[opEff,ho] at h;have hx:=hev x;split at h
 ·rename_i k k' n hu he;rw[he] at hx;simp only[RelD] at hx;split at h
  ·rename_i hs;simp only[sI] at h;subst h;obtain⟨ds,hds⟩:=Option.isSome_iff_exists.1 hs;exact step_pure M (v:= .int k (k.wrap n)) (by simp[execOp,ho,hx,convert,run_underlying hu,run_underlying hds,Conv.intToInt]) (by simp only[RelD])
  ·cases h
 ·cases h
theorem op_makeFunc (M:Mem b X) (hev:∀x,RelD X (ev x) (va x)) {f:FuncId} {first caps:Array Operand} (ho:o.op= .makeFunc (.func f) first caps) (h:opEff P rd nid sp o ev=some E):Step P b X nid o va E:=by
 simp only[opEff,ho] at h;split at h
 ·rename_i h0;simp only[sI] at h;subst h;have hf0:first= #[]:=Array.size_eq_zero_iff.1 h0;refine step_pure M (v:= .func (.func f) #[] (caps.map va)) (by simp[execOp,ho,Instr.makeFunc,hf0]) ?_;simp only[RelD];refine⟨caps.toList.map va,by rw[←Array.toList_map],relDs_map _ fun x _=>hev x⟩
 ·cases h
theorem own_forget {id off len k:Nat} {r:Row} {sz m:Nat} {v:Value} (hs:slot X.H id= .live r) (hd:r.dims=some (sz,m)) (hk:m≤off+k) (h:RelD X (.own id off len (some k)) v):RelD X (.own id off len none) v:=by
 simp only[RelD] at h⊢;rw[hs] at h⊢;simp only at h⊢;rw[hd] at h⊢;obtain⟨h1,A,c,h2,h3,h4,h5,h6,h7⟩:=h;have:=h5 k rfl;subst this;exact⟨h1,A,c,h2,h3,h4,by simp,fun _=>hk,h7⟩
theorem op_makeSlice (M:Mem b X) (hev:∀x,RelD X (ev x) (va x)) (hrd:∀id r,rd id=some r→hget X.H id=some r) {t:TypeId} {l c:Operand} (ho:o.op= .makeSlice t l c) (h:opEff P rd nid sp o ev=some E) (hob:∀p∈E.obl,p) (hf:Free X nid E.allocs.length) (hn:b.n≤nid):Step P b X nid o va E:=by
 simp only[opEff,ho] at h;have hl:=hev l;have hc:=hev c;split at h
 ·rename_i e kl ln kc cn hu hel hec;rw[hel] at hl;rw[hec] at hc;simp only[RelD] at hl hc;split at h
  ·rename_i ty z _ hz;split at h
   ·rename_i hg;simp only[Bool.and_eq_true,decide_eq_true_eq] at hg;split at h
    ·rename_i y hy;split at h
     ·simp only[sI] at h;subst h;have o1:=hob (0≤ln) (by simp);have o2:=hob (ln≤cn) (by simp);have o3:=hob (cn≤9223372036854775807) (by simp);have o4:=hob (cn.toNat*P.bytesOf e≤281474976710656) (by simp);obtain⟨v,X',h1,h2,h3,h4,h5⟩:=s_makeSlice (P:=P) M hf.one.1 hf.one.2 hn rd hrd hu hz hg.1 (by simpa using hg.2) hy kl kc ln cn o1 o2 o3 o4;have h6:RelD X' (.own nid 0 ln.toNat (capM l c cn.toNat)) v:=by
       rcases capM_cases l c cn.toNat with ec|ec
       ·rw[ec];exact h5
       ·rw[ec];refine own_forget (r:= .data e ty (List.replicate cn.toNat y)) ?_ rfl (by simp) h5;rw[h3];rw[slot_set,if_pos ⟨rfl,hf.one.2⟩]
      exact⟨_,v,X',by simp only[execOp,ho,hl,hc];exact run_v h1,.inl rfl,h2,h3,h4,h6⟩
     ·rename_i k _;split at h
      ·rename_i hk;subst hk;split at h
       ·rename_i hg2;simp only[Bool.and_eq_true,decide_eq_true_eq] at hg2;simp only[sI] at h;subst h;have o1:=hob (0≤ln) (by simp);have o2:=hob (ln≤cn) (by simp);have o3:=hob (cn≤9223372036854775807) (by simp);have o4:=hob (cn.toNat*P.bytesOf e≤281474976710656) (by simp);have hzp:z[k.p]? =some (.v (.slice none 0 0)):=by
         have h3:=hg2.2;cases hzk:z[k.p]? with
         |none=>rw[hzk] at h3;cases h3
         |some d=>
          rw[hzk] at h3;simp only[Option.any_some] at h3;split at h3
          ·rfl
          ·cases h3
        obtain⟨v,X',h1,h2,h3,h4,h5⟩:=s_makeSlice_nest (P:=P) M hf.one.1 hf.one.2 hn rd hrd hu hg2.1.2 hg2.1.1 hz hg.1 (by simpa using hg.2) hy hzp kl kc ln cn o1 o2 o3 o4;have h6:RelD X' (.own nid 0 ln.toNat (capM l c cn.toNat)) v:=by
         rcases capM_cases l c cn.toNat with ec|ec
         ·rw[ec];exact h5
         ·rw[ec];refine own_forget (r:= .nest k (List.replicate cn.toNat y) none) ?_ rfl (by simp) h5;rw[h3];rw[slot_set,if_pos ⟨rfl,hf.one.2⟩]
        exact⟨_,v,X',by simp only[execOp,ho,hl,hc];exact run_v h1,.inl rfl,h2,h3,h4,h6⟩
       ·cases h
      ·cases h
    ·cases h
   ·cases h
  ·cases h
 ·cases h
theorem op_extract (M:Mem b X) (hev:∀x,RelD X (ev x) (va x)) {t:Operand} {i:Nat} (ho:o.op= .extract t i) (h:opEff P rd nid sp o ev=some E):Step P b X nid o va E:=by
 simp only[opEff,ho] at h;have hx:=hev t;split at h
 ·rename_i ds he;rw[he] at hx;simp only[RelD] at hx;obtain⟨us,hv,hr⟩:=hx;rw[Option.map_eq_some_iff] at h;obtain⟨d,hd,rfl⟩:=h;obtain⟨u,hu,hr'⟩:=relDs_get hr hd;exact step_pure M (v:=u) (by simp[execOp,ho,hv,Instr.extract,hu]) hr'
 ·cases h
end
section
variable {P:Program} {b:Beg} {X:Ctx}
variable {nid:Nat} {sp:Sp} {o:Oper} {ev:Operand→D} {va:Operand→Value} {E:Eff} {rd:Nat→Option Row}
theorem size_info {e:TypeId} {n:Nat} (h:n=P.cellsOf e) (h0:n≠0):∃i,P.info? e=some i∧n=i.size:=by
 obtain⟨i,hi,hs⟩:=cellsOf_info (P:=P) (t:=e) (by rw[←h];exact h0);exact⟨i,hi,by rw[h,hs]⟩
theorem optInt_val (hev:∀x,RelD X (ev x) (va x)) {x:Option Operand} {r:Option Int} (h:optInt (x.map ev)=some r) (d:Int):(x.map va=none∧r.getD d=d)∨∃k,x.map va=some (.int k (r.getD d)):=by
 rcases optInt_some hev h d with⟨h1,h2,_⟩|⟨k,n,h1,h2⟩
 ·exact .inl ⟨h1,h2⟩
 ·subst h2;exact .inr ⟨k,h1⟩
theorem op_slice (M:Mem b X) (hev:∀x,RelD X (ev x) (va x)) (hrd:∀id r,rd id=some r→hget X.H id=some r) {t:TypeId} {x:Operand} {lo hi mx:Option Operand} (ho:o.op= .slice t x lo hi mx) (h:opEff P rd nid sp o ev=some E) (hob:∀p∈E.obl,p):Step P b X nid o va E:=by
 simp only[opEff,ho] at h;have hx:=hev x;split at h
 ·rename_i e l hh m hu el eh em;split at h
  ·cases h
  ·rename_i hmh;have vl:=optInt_val hev el 0;have vm:=optInt_some hev em 0;have hmx:∀(n:Int),m.getD 0=n→(mx.map va=none∨(hi.map va≠none∧∃k,mx.map va=some (.int k n))):=by
    intro n hn;rcases vm with⟨h1,_,_⟩|⟨k,n',h1,h2⟩
    ·exact .inl h1
    ·refine .inr ⟨?_,k,?_⟩
     ·subst h2;intro hc;rcases optInt_some hev eh 0 with⟨_,_,h3⟩|⟨k2,n2,h3,_⟩
      ·subst h3;simp at hmh
      ·rw[hc] at h3;cases h3
     ·subst h2;simp only[Option.getD_some] at hn;rw[h1,hn]
   have hmn:m=none→mx.map va=none:=by
    intro hm;rcases vm with⟨h1,_,_⟩|⟨k,n',h1,h2⟩
    ·exact h1
    ·rw[hm] at h2;cases h2
   have hms:∀n,m=some n→mx.map va≠none:=by
    intro n hm;rcases vm with⟨_,_,h2⟩|⟨k,n',h1,h2⟩
    ·rw[hm] at h2;cases h2
    ·rw[h1];simp
   split at h
   ·rename_i id off len cap he;rw[he] at hx;have vh:=optInt_val hev eh (len:Int);split at h
    ·rename_i et ty xs hr;split at h
     ·rename_i hg;simp only[Bool.and_eq_true,decide_eq_true_eq] at hg;obtain⟨i,hi',hsz⟩:=size_info hg.1 (by simpa using hg.2);split at h
      all_goals
       simp only[sI] at h;subst h;simp only[List.mem_cons,List.not_mem_nil,or_false,forall_eq_or_imp,forall_eq] at hob
      ·obtain⟨o1,o2,o3⟩:=hob;obtain⟨v,h1,h2⟩:=s_slice_own (P:=P) hu hi' hx (hrd _ _ hr) hsz (cap':=none) _ _ _ _ _ 0 vl vh (hmx 0 rfl) o1 o2 (.inl ⟨hmn rfl,rfl,rfl,o3⟩);exact step_pure M (by simp only[execOp,ho];exact run_v h1) h2
      ·rename_i c;obtain⟨o1,o2,o3,o4⟩:=hob;obtain⟨v,h1,h2⟩:=s_slice_own (P:=P) hu hi' hx (hrd _ _ hr) hsz (cap':=some _) _ _ _ _ _ 0 vl vh (hmx 0 rfl) o1 o2 (.inr (.inl ⟨hmn rfl,c,rfl,rfl,o3,o4⟩));exact step_pure M (by simp only[execOp,ho];exact run_v h1) h2
      ·rename_i m';obtain⟨o1,o2,o3,o4⟩:=hob;obtain⟨v,h1,h2⟩:=s_slice_own (P:=P) hu hi' hx (hrd _ _ hr) hsz (cap':=some _) _ _ _ _ _ m' vl vh (hmx m' rfl) o1 o2 (.inr (.inr (.inl ⟨hms m' rfl,rfl,rfl,o3,o4⟩)));exact step_pure M (by simp only[execOp,ho];exact run_v h1) h2
      ·rename_i m' c;obtain⟨o1,o2,o3,o4,o5⟩:=hob;obtain⟨v,h1,h2⟩:=s_slice_own (P:=P) hu hi' hx (hrd _ _ hr) hsz (cap':=some _) _ _ _ _ _ m' vl vh (hmx m' rfl) o1 o2 (.inr (.inr (.inr ⟨hms m' rfl,c,rfl,rfl,o3,o4,o5⟩)));exact step_pure M (by simp only[execOp,ho];exact run_v h1) h2
     ·cases h
    ·cases h
   ·rename_i nn cl ty xs he;rw[he] at hx;have vh:=optInt_val hev eh (xs.length:Int);split at h
    ·rename_i hg;simp only[Bool.and_eq_true,decide_eq_true_eq] at hg;obtain⟨i,hi',hsz⟩:=size_info hg.1 (by simpa using hg.2);split at h
     all_goals
      simp only[sI] at h;subst h;simp only[List.mem_cons,List.not_mem_nil,or_false,forall_eq_or_imp,forall_eq] at hob
     ·obtain⟨o1,o2,o3⟩:=hob;obtain⟨v,h1,h2⟩:=s_slice_ro (P:=P) hu hi' hx hsz _ _ _ _ _ 0 vl vh (hmx 0 rfl) o1 o2 o3 false (.inl ⟨hmn rfl,rfl⟩);exact step_pure M (by simp only[execOp,ho];exact run_v h1) h2
     ·rename_i m';obtain⟨o1,o2,o3,o4⟩:=hob;obtain⟨v,h1,h2⟩:=s_slice_ro (P:=P) hu hi' hx hsz _ _ _ _ _ m' vl vh (hmx m' rfl) o1 o2 (by omega) true (.inr ⟨hms m' rfl,o3⟩);exact step_pure M (by simp only[execOp,ho];exact run_v h1) h2
    ·cases h
   ·cases h
 ·rename_i lo' hi' hu el eh em;split at h
  ·rename_i s he;rw[he] at hx;simp only[RelD] at hx;simp only[sI] at h;subst h;simp only[List.mem_cons,List.not_mem_nil,or_false,forall_eq_or_imp,forall_eq] at hob;obtain⟨o1,o2,o3⟩:=hob;have vl:=optInt_val hev el 0;have vh:=optInt_val hev eh (s.size:Int);have vm:mx.map va=none:=by
    rcases optInt_some hev em 0 with⟨h1,_,_⟩|⟨k,n',h1,h2⟩
    ·exact h1
    ·cases h2
   refine step_pure M (v:= .string (s.extract (lo'.getD 0).toNat (hi'.getD s.size).toNat)) ?_ (by simp only[RelD]);simp only[execOp,ho,hx,vm];exact run_v (run_slice_str hu X.w s _ _ _ _ vl vh o1 o2 o3)
  ·cases h
 ·cases h
theorem op_field (M:Mem b X) (hev:∀x,RelD X (ev x) (va x)) (hrd:∀id r,rd id=some r→hget X.H id=some r) {t:TypeId} {x:Operand} {f:Nat} (ho:o.op= .fieldAddr t x f) (h:opEff P rd nid sp o ev=some E):Step P b X nid o va E:=by
 simp only[opEff,ho] at h;have hx:=hev x;split at h
 ·rename_i fs hu;split at h
  ·rename_i fd hfd;split at h
   ·rename_i h0;split at h
    ·rename_i id i off he;rw[he] at hx;split at h
     ·rename_i r hr;simp only[sI] at h;subst h;obtain⟨v,h1,h2⟩:=s_field_ptr (P:=P) M hu hfd h0 hx (hrd _ _ hr);exact step_pure M (by simp only[execOp,ho];exact run_v h1) h2
     ·cases h
    ·rename_i cs he;rw[he] at hx;simp only[sI] at h;subst h;obtain⟨v,h1,h2⟩:=s_field_ro (P:=P) hu hfd h0 hx;exact step_pure M (by simp only[execOp,ho];exact run_v h1) h2
    ·cases h
   ·cases h
  ·cases h
 ·cases h
theorem op_indexAddr (M:Mem b X) (hev:∀x,RelD X (ev x) (va x)) (hrd:∀id r,rd id=some r→hget X.H id=some r) {t:TypeId} {x ix:Operand} (ho:o.op= .indexAddr t x ix) (h:opEff P rd nid sp o ev=some E) (hob:∀p∈E.obl,p):Step P b X nid o va E:=by
 simp only[opEff,ho] at h;have hx:=hev x;have hi:=hev ix;split at h
 ·rename_i k n hei;rw[hei] at hi;simp only[RelD] at hi;split at h
  ·rename_i e hu;split at h
   ·rename_i id off len cap he;rw[he] at hx;split at h
    ·rename_i et ty xs hr;split at h
     ·rename_i hg;simp only[Bool.and_eq_true,decide_eq_true_eq] at hg;obtain⟨i,hi',hsz⟩:=size_info hg.1 (by simpa using hg.2);simp only[sI] at h;subst h;simp only[List.mem_cons,List.not_mem_nil,or_false,forall_eq_or_imp,forall_eq] at hob;obtain⟨v,h1,h2⟩:=s_index_own (P:=P) hu hi' hx (hrd _ _ hr) rfl hsz k n hob.1 hob.2;exact step_pure M (by simp only[execOp,ho,hi];exact run_v h1) h2
     ·cases h
    ·rename_i kk xs hh hr;split at h
     ·rename_i hg;simp only[Bool.and_eq_true,decide_eq_true_eq] at hg;obtain⟨i,hi',hsz⟩:=size_info hg.1 (by simpa using hg.2);simp only[sI] at h;subst h;simp only[List.mem_cons,List.not_mem_nil,or_false,forall_eq_or_imp,forall_eq] at hob;obtain⟨v,h1,h2⟩:=s_index_own (P:=P) hu hi' hx (hrd _ _ hr) rfl hsz k n hob.1 hob.2;exact step_pure M (by simp only[execOp,ho,hi];exact run_v h1) h2
     ·cases h
    ·cases h
   ·rename_i id len sz he;rw[he] at hx;split at h
    ·rename_i bt ds hr;split at h
     ·rename_i hg;simp only[Bool.and_eq_true,decide_eq_true_eq] at hg;obtain⟨i,hi',hsz⟩:=size_info hg.1 (by simpa using hg.2);simp only[sI] at h;subst h;subst hsz;simp only[List.mem_cons,List.not_mem_nil,or_false,forall_eq_or_imp,forall_eq] at hob;obtain⟨v,h1,h2⟩:=s_index_bsl (P:=P) hu hi' hx (hrd _ _ hr) k n hob.1 hob.2;exact step_pure M (by simp only[execOp,ho,hi];exact run_v h1) h2
     ·cases h
    ·cases h
   ·rename_i nn cl ty xs he;rw[he] at hx;split at h
    ·rename_i hg;simp only[Bool.and_eq_true,decide_eq_true_eq] at hg;obtain⟨i,hi',hsz⟩:=size_info hg.1 (by simpa using hg.2);simp only[sI] at h;subst h;simp only[List.mem_cons,List.not_mem_nil,or_false,forall_eq_or_imp,forall_eq] at hob;obtain⟨v,h1,h2⟩:=s_index_ro (P:=P) hu hi' hx hsz k n hob.1 hob.2;exact step_pure M (by simp only[execOp,ho,hi];exact run_v h1) h2
    ·cases h
   ·cases h
  ·rename_i len e hu;split at h
   ·cases h
   ·rename_i h0;obtain⟨i,hi',hsz⟩:=cellsOf_info (P:=P) h0;split at h
    ·rename_i id j off he;rw[he] at hx;split at h
     ·rename_i bt ds hr;simp only[sI] at h;subst h;simp only[List.mem_cons,List.not_mem_nil,or_false,forall_eq_or_imp,forall_eq] at hob;obtain⟨v,h1,h2⟩:=s_index_box (P:=P) hu hi' hx (hrd _ _ hr) k n hob.1 hob.2;rw[hsz];exact step_pure M (by simp only[execOp,ho,hi];exact run_v h1) h2
     ·cases h
    ·rename_i cs he;rw[he] at hx;split at h
     ·rename_i kk ns htab;simp only[sI] at h;subst h;simp only[List.mem_cons,List.not_mem_nil,or_false,forall_eq_or_imp,forall_eq] at hob;obtain⟨v,h1,h2⟩:=s_index_tab (P:=P) hu hi' hsz.symm hx htab k n hob.1 hob.2;exact step_pure M (by simp only[execOp,ho,hi];exact run_v h1) h2
     ·simp only[sI] at h;subst h;simp only[List.mem_cons,List.not_mem_nil,or_false,forall_eq_or_imp,forall_eq] at hob;obtain⟨v,h1,h2⟩:=s_index_arro (P:=P) hu hi' hx k n hob.1 hob.2;rw[hsz];exact step_pure M (by simp only[execOp,ho,hi];exact run_v h1) h2
    ·cases h
  ·cases h
 ·cases h
theorem op_index (M:Mem b X) (hev:∀x,RelD X (ev x) (va x)) {t:TypeId} {x ix:Operand} (ho:o.op= .index t x ix) (h:opEff P rd nid sp o ev=some E) (hob:∀p∈E.obl,p):Step P b X nid o va E:=by
 simp only[opEff,ho] at h;have hx:=hev x;have hi:=hev ix;split at h
 ·rename_i k n len e cs hei hu he;rw[hei] at hi;rw[he] at hx;simp only[RelD] at hi;split at h
  ·rename_i s hs;obtain⟨i,hi',hu',rfl⟩:=sizeB_some hs;rw[Option.map_eq_some_iff] at h;obtain⟨d,hd,rfl⟩:=h;simp only[List.mem_cons,List.not_mem_nil,or_false,forall_eq_or_imp,forall_eq] at hob;obtain⟨v,h1,h2⟩:=s_index_agg (P:=P) hu hi' hu' hx k n hob.1 hob.2.1 hob.2.2 hd;exact step_pure M (by simp only[execOp,ho,hi];exact run_v h1) h2
  ·cases h
 ·cases h
theorem lenD_rel {d:D} {n:Nat} (h:lenD d=some n) {u:Value} (hr:RelD X d u):
  ∃A c,u= .slice A n c:=by
 unfold lenD at h;split at h
 ·simp only[sI] at h;subst h;simp only[RelD] at hr;exact⟨_,_,hr⟩
 ·simp only[sI] at h;subst h;simp only[RelD] at hr;obtain⟨A,c,us,e,_⟩:=hr;exact⟨_,_,e⟩
 ·rename_i id off len cap;simp only[sI] at h;subst h;simp only[RelD] at hr;cases hs:slot X.H id with
  |free=>rw[hs] at hr;exact hr.elim
  |dead=>rw[hs] at hr;obtain⟨A,c,e,_⟩:=hr;exact⟨_,_,e⟩
  |live r=>
   rw[hs] at hr;simp only at hr;cases hd:r.dims with
   |none=>rw[hd] at hr;exact hr.elim
   |some p=>
    rw[hd] at hr;obtain⟨_,A,c,e,_⟩:=hr;exact⟨_,_,e⟩
 ·rename_i id len sz;simp only[sI] at h;subst h;simp only[RelD] at hr;cases hs:slot X.H id with
  |free=>rw[hs] at hr;exact hr.elim
  |dead=>rw[hs] at hr;obtain⟨A,e⟩:=hr;exact⟨_,_,e⟩
  |live r=>
   rw[hs] at hr;cases r with
   |data _ _ _=>exact hr.elim
   |nest _ _ _=>exact hr.elim
   |box ty cs=>
    obtain⟨l,_,e⟩:=hr;exact⟨_,_,e⟩
 ·simp only[sI] at h;subst h;simp only[RelD] at hr;exact hr
 ·cases h
theorem capD_rel {id off len k:Nat} {u:Value} (hr:RelD X (.own id off len (some k)) u):∃A,u= .slice A len k:=by
 simp only[RelD] at hr;cases hs:slot X.H id with
 |free=>rw[hs] at hr;exact hr.elim
 |dead=>rw[hs] at hr;obtain⟨A,c,e,hk⟩:=hr;rw[hk k rfl] at e;exact⟨_,e⟩
 |live r=>
  rw[hs] at hr;simp only at hr;cases hd:r.dims with
  |none=>rw[hd] at hr;exact hr.elim
  |some p=>
   rw[hd] at hr;obtain⟨_,A,c,e,_,_,hk,_⟩:=hr;rw[hk k rfl] at e;exact⟨_,e⟩
end
section
variable {P:Program} {b:Beg} {X:Ctx}
variable {nid:Nat} {sp:Sp} {o:Oper} {ev:Operand→D} {va:Operand→Value} {E:Eff} {rd:Nat→Option Row}
theorem exec_builtin {c:Call} {B:Builtin} (ho:o.op= .call c) (hc:c.callee= .builtin B) (w:World):
  ∃cs,(execOp va o).run P w=(builtin B c.argTypes o.type cs (c.args.map va)).run P w:=by
 simp only[execOp,ho,resolve,hc];rw[Sem.run_bind];simp only[Sem.run_pure];exact⟨_,rfl⟩
theorem args_eq {c:Call} {l:List Operand} (h:c.args.toList=l):c.args.map va=(l.map va).toArray:=by
 rw[←h,←Array.toList_map]
theorem types_eq {c:Call} {l:List TypeId} (h:c.argTypes.toList=l):c.argTypes=l.toArray:=by
 rw[←h]
theorem map_two {l:List Operand} {x y:D} (h:l.map ev=[x,y]):∃p q,l=[p,q]∧ev p=x∧ev q=y:=by
 match l,h with
 | [p,q],h=>simp only[List.map_cons,List.map_nil,List.cons.injEq,and_true] at h;exact⟨p,q,rfl,h.1,h.2⟩
 | [],h=>simp at h
 | [_],h=>simp at h
 |_::_::_::_,h=>simp at h
theorem map_one {l:List Operand} {x:D} (h:l.map ev=[x]):∃p,l=[p]∧ev p=x:=by
 match l,h with
 | [p],h=>simp only[List.map_cons,List.map_nil,List.cons.injEq,and_true] at h;exact⟨p,rfl,h⟩
 | [],h=>simp at h
 |_::_::_,h=>simp at h
theorem bi_append0 (M:Mem b X) (hrd:∀id r,rd id=some r→hget X.H id=some r) {s x:D} {e e' t t' oty:TypeId} {v0 u:Value} (hs:RelD X s v0) (hu:RelD X x u) (ht:P.underlying t=some (.slice e)) (ht':P.underlying t'=some (.slice e'))
  (h:appEff0 P rd nid s x e=some E) (hob:∀p∈E.obl,p) (hf:Free X nid E.allocs.length) (hn:b.n≤nid):
  ∃v X',(Builtin.append_ #[t,t'] oty #[v0,u]).run P X.w= .ok v X'.w∧Mem b X'∧X'.H=setWrites (setAllocs X.H nid E.allocs) E.writes∧Le X X'∧RelD X' E.val v:=by
 unfold appEff0 at h;split at h
 ·rename_i ty _;split at h
  ·rename_i hg;simp only[Bool.and_eq_true,decide_eq_true_eq] at hg;obtain⟨z,hz⟩:=Option.isSome_iff_exists.1 hg.2;have h0:ty.size≠0:=by simpa using hg.1.2
   split at h
   ·rename_i ys hys;split at h
    ·simp only[sI] at h;subst h;simp only[RelD] at hs;subst hs;exact s_append_nil M hf.one.1 hf.one.2 hn rd hrd ht ht' hz hg.1.1 h0 hys hu (hob _ (List.mem_singleton.2 rfl))
    ·split at h
     ·rename_i hty;subst hty;simp only[sI] at h;subst h;exact s_append_closed M hf.one.1 hf.one.2 hn rd hrd ht ht' hz hg.1.1 h0 hys hu hs (hob _ (List.mem_singleton.2 rfl))
     ·cases h
    ·rename_i id off len cap;split at h
     ·rename_i e2 ty' xs hr;split at h
      ·rename_i hty;subst hty;split at h
       ·rename_i he;subst he;split at h
        ·rename_i hcap;subst hcap;simp only[sI] at h;subst h;exact s_append_zero M hf.one.1 hf.one.2 hn rd hrd ht ht' hz hg.1.1 h0 hys hu (hrd _ _ hr) hs (hob _ (List.mem_singleton.2 rfl))
        ·simp only[sI] at h;subst h;exact s_append_own M hf.one.1 hf.one.2 hn rd hrd ht ht' hz hg.1.1 h0 hys hu (hrd _ _ hr) hs (hob _ (List.mem_singleton.2 rfl))
       ·cases h
      ·cases h
     ·cases h
    ·cases h
   ·cases h
  ·cases h
 ·cases h
theorem unf_congr {rd rd':Nat→Option Row} {k:NK} {xs xs':List k.t.El} {h:Option (Nat×D)} {ws:List (Nat×Option Row)} (hu:unf rd k xs h=some (xs',ws)) (hc:∀p∈ws,rd' p.1=rd p.1):unf rd' k xs h=some (xs',ws):=by
 unfold unf at hu⊢;split at hu
 ·exact hu
 ·exact hu
 ·rename_i i r off len cap;split at hu
  ·rename_i e u zs hz;split at hu
   ·rename_i he;split at hu
    ·rename_i hg;have hu':=hu;simp only[sI,Prod.mk.injEq] at hu';have:rd' r=rd r:=hc (r,none) (by rw[←hu'.2];simp);simp only[this,hz,he,hg,dite_true,if_true];simpa [he] using hu
    ·cases hu
   ·cases hu
  ·cases hu
 ·cases hu
theorem bi_append (M:Mem b X) (hrd:∀id r,rd id=some r→hget X.H id=some r) {s x:D} {e e' t t' oty:TypeId} {v0 u:Value} (hs:RelD X s v0) (hu:RelD X x u) (ht:P.underlying t=some (.slice e)) (ht':P.underlying t'=some (.slice e'))
  (h:appEff P rd nid s x e=some E) (hob:∀p∈E.obl,p) (hf:Free X nid E.allocs.length) (hn:b.n≤nid):
  ∃v X',(Builtin.append_ #[t,t'] oty #[v0,u]).run P X.w= .ok v X'.w∧Mem b X'∧X'.H=setWrites (setAllocs X.H nid E.allocs) E.writes∧Le X X'∧RelD X' E.val v:=by
 unfold appEff at h;split at h
 ·rename_i id2 n cap2;split at h
  ·rename_i k ys h2 hr2;unfold appNest at h;split at h
   ·rename_i hg;simp only[Bool.and_eq_true,decide_eq_true_eq] at hg;obtain⟨⟨⟨rfl,hsz⟩,hzs⟩,hok⟩:=hg;obtain⟨z,hz⟩:=Option.isSome_iff_exists.1 hzs;split at h
    ·rename_i ys' ws2 hu2;have hr20:=hrd _ _ hr2;obtain⟨X1,M1,L1,hw1,hS1,hH1,hlen1,ids2,rfl,hnd2,hids2⟩:=mem_unf M hrd hr20 hu2;have hl2:id2<X.H.length:=lt_of_slot (by rw[hget_live.1 hr20];simp);have hr21:hget X1.H id2=some (.nest k ys' none):=by rw[hget_live,hH1,slot_set,if_pos ⟨rfl,by rw[setWrites_length];exact hl2⟩]
     have hid2:id2∉ids2:=fun h=>by
      obtain⟨e,t,zs,hrr⟩:=hids2 id2 h;rw[hr20] at hrr;cases hrr
     have hfree:0<E.allocs.length→nid≠id2∧nid∉ids2∧slot X1.H nid= .free∧nid<X1.H.length:=fun h0=>by
      have hf0:=hf 0 h0;have h1:nid≠id2:=hget_ne_free hr20 hf0.1;have h3:nid∉ids2:=fun h=>by
       obtain⟨e,t,zs,hrr⟩:=hids2 nid h;exact hget_ne_free hrr hf0.1 rfl
      refine⟨h1,h3,?_,by rw[hH1,List.length_set,setWrites_length];exact hf0.2⟩;rw[hH1,slot_set,if_neg (fun e=>h1 e.1.symm),slot_gone,if_neg (fun e=>h3 e.1)];exact hf0.1
     split at h
     ·simp only[sI] at h;subst h;simp only[RelD] at hs;subst hs;obtain⟨hn2,hni2,hf1,hl1⟩:=hfree (by simp);have ob1:n=List.length ys:=hob _ (List.mem_cons_self ..);have ob2:roomy P k.e (List.length ys):=hob _ (List.mem_cons_of_mem _ (List.mem_cons_self ..));obtain⟨hle,A2,c2,vs,js,rfl,hc2,hA2,E2,o2,hAt2,nd2,blk2,_,_⟩:=nest_src M1 hr21 (L1.d hu);have htk:ys'.take n=ys':=List.take_of_length_le (by omega);rw[htk] at E2;have hyl:ys'.length=n:=by omega
      obtain⟨v,X',h1,h2,h3,h4,h5⟩:=s_append_nest (P:=P) (oty:=oty) (c2:=c2) M1 hf1 hl1 hn ht ht' hz hok rfl hsz (xs:=[]) (us:=[]) (is:=[]) ⟨by simp,rfl,by simp⟩ E2 (by simp) o2 (A:=none) (c:=0) (by simp) (fun _=>rfl) hA2 (fun j u hj=>by simp at hj) hAt2
       [id2] rfl (by intro j hj;simp at hj;subst hj;rw[hr21];simp) (fun p hp=>by
        simp only[List.nil_append] at hp;obtain⟨l,h1,h2,h3⟩:=blk2 p hp;exact⟨id2,by simp,l,h1,h2,h3⟩) (by simpa using nd2) (.inl rfl) (by simp only[List.length_nil,Nat.zero_add,hlen1];exact ob2)
      simp only[List.length_nil,List.nil_append,Nat.zero_add] at h1 h3 h5;rw[hyl,hw1] at h1;refine⟨v,X',h1,h2,?_,L1.trans h4,by rw[←hlen1];exact h5⟩;rw[h3,hH1];refine heap_ext (by simp[setWrites_length,setAllocs]) fun j hj=> ?_;have hj':j<X.H.length:=by simpa [setWrites_length] using hj
      simp only[setAllocs,setWrites_append,List.map_cons,List.map_nil,setWrites,slotOf];simp only[slot_set,slot_gone,List.length_set,setWrites_length];by_cases e1:id2=j
      ·subst e1;simp[hl2]
      ·by_cases e2:nid=j
       ·subst e2;simp[e1,hni2,hj']
       ·by_cases e3:j∈ids2<;>simp[e1,e2,e3,hj']
     ·rename_i id off len cap;split at h
      ·rename_i k' xs h1 hr1;split at h
       ·rename_i hk;subst hk;split at h
        ·rename_i hg2;simp only[Bool.and_eq_true,decide_eq_true_eq] at hg2;obtain⟨rfl,hne⟩:=hg2;have hne:id≠id2:=by simpa using hne
         split at h
         ·rename_i xs' ws1 hu1;split at h
          ·rename_i hndw;simp only[sI] at h;subst h;obtain⟨hn2,hni2,hf1,hl1⟩:=hfree (by simp);have ob1:n=List.length ys:=hob _ (List.mem_cons_self ..);have ob2:roomy P k'.e (len+List.length ys):=hob _ (List.mem_cons_of_mem _ (List.mem_cons_self ..));have hr10:=hrd _ _ hr1;have hidl:id<X.H.length:=lt_of_slot (by rw[hget_live.1 hr10];simp);have hid1:id∉ids2:=fun h=>by
            obtain⟨e,t,zs,hrr⟩:=hids2 id h;rw[hr10] at hrr;cases hrr
           obtain⟨ids1,rfl,_,hids1⟩:∃ids:List Nat,ws1=ids.map (fun i=>(i,none))∧nodupB ids=true∧∀r∈ids,∃e t zs,hget X.H r=some (.data e t zs):=by
            obtain⟨_,_,_,_,_,_,_,h⟩:=mem_unf M hrd hr10 hu1;exact h
           have hndu:(ids1++ids2).Nodup:=by
            have:=nodupB_nodup hndw;simpa [List.map_map,Function.comp_def] using this
           have hdis:∀r∈ids1,r∉ids2∧r≠id2∧r≠id:=fun r hr=>by
            refine⟨fun h=>(List.nodup_append.1 hndu).2.2 r hr r h rfl,fun e=> ?_,fun e=> ?_⟩
            ·obtain⟨_,_,_,hrr⟩:=hids1 r hr;rw[e,hr20] at hrr;cases hrr
            ·obtain⟨_,_,_,hrr⟩:=hids1 r hr;rw[e,hr10] at hrr;cases hrr
           have hslot1:∀j,j∉ids2→j≠id2→slot X1.H j=slot X.H j:=fun j h1 h2=>by
            rw[hH1,slot_set,if_neg (fun e=>h2 e.1.symm),slot_gone,if_neg (fun e=>h1 e.1)]
           have hrd1:∀i r,(fun i=>if i∈ids2∨i=id2 then none else rd i) i=some r→hget X1.H i=some r:=fun i r hi=>by
            simp only at hi;by_cases hc:i∈ids2∨i=id2
            ·rw[if_pos hc] at hi;cases hi
            ·rw[if_neg hc] at hi;rw[hget_live,hslot1 i (fun h=>hc (.inl h)) (fun h=>hc (.inr h))];exact hget_live.1 (hrd i r hi)
           have hr11:hget X1.H id=some (.nest k' xs h1):=by
            rw[hget_live,hslot1 id hid1 hne];exact hget_live.1 hr10
           obtain⟨X2,M2,L2,hw2,hS2,hH2,hlen2,ids1',hide,hnd1,_⟩:=mem_unf M1 hrd1 hr11 (unf_congr hu1 (fun p hp=>by
            obtain⟨r,hr,rfl⟩:=List.mem_map.1 hp;show(if r∈ids2∨r=id2 then none else rd r)=rd r;rw[if_neg];rintro(h|h)
            ·exact(hdis r hr).1 h
            ·exact(hdis r hr).2.1 h))
           have hni1:nid∉ids1:=fun h=>by
            obtain⟨e,t,zs,hrr⟩:=hids1 nid h;exact hget_ne_free hrr (hf 0 (by simp)).1 rfl
           have hnid:nid≠id:=hget_ne_free hr10 (hf 0 (by simp)).1;have hslot2:∀j,j∉ids1→j≠id→slot X2.H j=slot X1.H j:=fun j h1 h2=>by
            rw[hH2,slot_set,if_neg (fun e=>h2 e.1.symm),slot_gone,if_neg (fun e=>h1 e.1)]
           have hlen12:X2.H.length=X.H.length:=by rw[hH2,List.length_set,setWrites_length,hH1,List.length_set,setWrites_length]
           have hr12:hget X2.H id=some (.nest k' xs' none):=by
            rw[hget_live,hH2,slot_set,if_pos ⟨rfl,by rw[setWrites_length,hH1,List.length_set,setWrites_length];exact hidl⟩]
           have hi1:id2∉ids1:=fun h=>(hdis id2 h).2.1 rfl;have hr22:hget X2.H id2=some (.nest k' ys' none):=by
            rw[hget_live,hslot2 id2 hi1 (fun e=>hne e.symm)];exact hget_live.1 hr21
           have hf2:slot X2.H nid= .free:=by rw[hslot2 nid hni1 hnid];exact hf1
           obtain⟨hle1,A,c,us,is,rfl,hc1,hA1,E1,o1,hAt1,nd1,blk1,_,place⟩:=nest_src M2 hr12 ((L1.trans L2).d hs);obtain⟨hle,A2,c2,vs,js,rfl,hc2,hA2,E2,o2,hAt2,nd2,blk2,_,_⟩:=nest_src M2 hr22 ((L1.trans L2).d hu);have htk:ys'.take n=ys':=List.take_of_length_le (by omega);rw[htk] at E2;have hyl:ys'.length=n:=by omega
           have hxl:(xs'.take len).length=len:=by simp;omega
           have hli1:hget X2.H id≠none:=by rw[hr12];simp
           have hli2:hget X2.H id2≠none:=by rw[hr22];simp
           obtain⟨v,X',g1,g2,g3,g4,g5⟩:=s_append_nest (P:=P) (oty:=oty) (c2:=c2) M2 hf2 (by rw[hlen12];exact(hf 0 (by simp)).2) hn ht ht' hz hok rfl hsz E1 E2 o1 o2 (A:=A) (c:=c) (by rw[hxl];exact hc1) hA1 hA2 hAt1 hAt2
            [id,id2] (by simp[nodupB,hne]) (by intro j hj;simp at hj;rcases hj with rfl|rfl<;>assumption) (fun p hp=>by
             rcases List.mem_append.1 hp with h|h
             ·obtain⟨l,h1,h2,h3⟩:=blk1 p h;exact⟨id,by simp,l,h1,h2,h3⟩
             ·obtain⟨l,h1,h2,h3⟩:=blk2 p h;exact⟨id2,by simp,l,h1,h2,h3⟩)
            (by
             rw[List.filterMap_append,List.nodup_append];refine⟨nd1,nd2,fun a ha c hc e=> ?_⟩;subst e;obtain⟨o,ho,e1⟩:=List.mem_filterMap.1 ha;obtain⟨o',ho',e2⟩:=List.mem_filterMap.1 hc;cases o with
             |none=>cases e1
             |some p=>
              cases o' with
              |none=>cases e2
              |some p'=>
               obtain⟨l,h1,h2,_⟩:=blk1 p ho;obtain⟨l',h1',h2',_⟩:=blk2 p' ho';have e3:p.b=a:=Option.some.inj e1;have e4:p'.b=a:=Option.some.inj e2;exact hne (M2.inj id id2 l l' hli1 hli2 h1 h1' a (e3▸h2) (e4▸h2')))
            (by
             rcases place with h|⟨l,cs,h1,h2,h3,h4,h5⟩
             ·exact .inl h
             ·exact .inr ⟨id,l,cs,by simp,h1,h2,h3,h4,h5⟩)
            (by rw[hxl,hlen1];exact ob2)
           rw[hxl,hyl,hw2,hw1] at g1;refine⟨v,X',g1,g2,?_,(L1.trans L2).trans g4,by rw[hxl,hyl,ob1] at g5;exact g5⟩;rw[g3,hH2,hH1];refine heap_ext (by simp[setWrites_length,setAllocs]) fun j hj=> ?_;have hj':j<X.H.length:=by simpa [setWrites_length] using hj
           have hnl:nid<X.H.length:=(hf 0 (by simp)).2;simp only[setAllocs,setWrites_append,List.map_cons,List.map_nil,setWrites,slotOf];simp only[slot_set,slot_gone,List.length_set,setWrites_length];by_cases e1:id2=j
           ·subst e1;simp[hl2]
           ·by_cases e0:id=j
            ·subst e0;simp[hidl,e1]
            ·by_cases e2:nid=j
             ·subst e2;simp[e1,e0,hni1,hni2,hnl]
             ·by_cases e3:j∈ids1<;>by_cases e4:j∈ids2<;>simp[e0,e1,e2,e3,e4,hj']
          ·cases h
         ·cases h
        ·cases h
       ·cases h
      ·cases h
     ·cases h
    ·cases h
   ·cases h
  ·exact bi_append0 M hrd hs hu ht ht' h hob hf hn
 ·exact bi_append0 M hrd hs hu ht ht' h hob hf hn
theorem s_append_clip (M:Mem b X) {nid:Nat} (hf:slot X.H nid= .free) (hl:nid<X.H.length) (hn:b.n≤nid) (rd:Nat→Option Row) (hrd:∀id r,rd id=some r→hget X.H id=some r)
  {t t' e e' oty:TypeId} {z:List D} (ht:P.underlying t=some (.slice e)) (ht':P.underlying t'=some (.slice e')) (hz:zeroD P e=some z)
  {ty:Ty} (hsz:ty.size=P.cellsOf e) (h0:ty.size≠0) {x:D} {xs ys:List ty.El} {u v0:Value} (hx:(Ty.sl ty).ofCells (rdDat rd) [x]=some ys) (hu:RelD X x u)
  {nn:Bool} (hs0:RelD X (.sl nn true ty xs) v0) (hy:List.length ys≠0) (hroom:roomy P e (List.length xs+List.length ys)):
  ∃v X',(Builtin.append_ #[t,t'] oty #[v0,u]).run P X.w= .ok v X'.w∧Mem b X'∧X'.H=X.H.set nid (.live (.data e ty (xs++ys)))∧Le X X'∧RelD X' (.own nid 0 (List.length xs+List.length ys) none) v:=by
 obtain⟨i,zv,hi,hz',hs,ho,rfl⟩:=zeroD_some hz;have hsz':ty.size=i.size:=by rw[hsz];simp[Program.cellsOf,hi]
 obtain⟨A2,c2,vs,e2,h22,h23,h24,h25⟩:=src_data M rd hrd hx hu;subst e2;simp only[RelD] at hs0;obtain⟨A,c,us,ev,hc,hA,_,hk,hr0,hat⟩:=hs0;have hc0:=hk trivial;subst hc0;subst ev;have hat':At (fun _=>True) X.w A us:=fun j u hj=>by
  obtain⟨a,h1,_,h3⟩:=hat j u hj;exact⟨a,h1,trivial,h3⟩
 exact s_append_grow (oty:=oty) (c2:=c2) M hf hl hn ht ht' hi hz' hsz' hs ho hr0 h24 rfl hat' h25 (at_none hat') h23 (by omega) hroom h0
theorem op_cl (M:Mem b X) (hev:∀x,RelD X (ev x) (va x)) (hrd:∀id r,rd id=some r→hget X.H id=some r) {c:Call} (ho:o.op= .call c) (hc:c.callee= .builtin .append)
  (h:clEff P rd nid (c.args.toList.map ev) c.argTypes.toList=some E) (hob:∀p∈E.obl,p) (hf:Free X nid E.allocs.length) (hn:b.n≤nid):Step P b X nid o va E:=by
 obtain⟨cs,hx⟩:=exec_builtin (va:=va) (P:=P) ho hc X.w;clear hc ho
 generalize hal:c.args.toList.map ev=al at h
 generalize htl:c.argTypes.toList=tl at h
 unfold clEff at h;split at h
 rotate_left
 ·cases h
 rename_i s x t t';obtain⟨p,q,hp,rfl,rfl⟩:=map_two hal;rw[args_eq hp,types_eq htl] at hx;split at h
 rotate_left
 ·cases h
 rename_i e e' hu hu';split at h
 rotate_left
 ·cases h
 rename_i ty _;split at h
 rotate_left
 ·cases h
 rename_i hg;simp only[Bool.and_eq_true,decide_eq_true_eq] at hg;obtain⟨z,hz⟩:=Option.isSome_iff_exists.1 hg.2;have h0:ty.size≠0:=by simpa using hg.1.2
 split at h
 rotate_left
 ·cases h
 rename_i ys hys;split at h
 rotate_left
 ·cases h
 rename_i nn ty' xs he;have hs:=hev p;rw[he] at hs;split at h
 rotate_left
 ·cases h
 rename_i hty;subst hty;simp only[sI] at h;subst h;obtain⟨v,X',h1,h2,h3,h4,h5⟩:=s_append_clip (oty:=o.type) M hf.one.1 hf.one.2 hn rd hrd hu hu' hz hg.1.1 h0 hys (hev q) hs (hob _ (List.mem_cons_self)) (hob _ (List.mem_cons_of_mem _ List.mem_cons_self));refine⟨_,v,X',?_,.inl rfl,h2,h3,h4,h5⟩;rw[hx];exact run_v h1
theorem op_builtin0 (M:Mem b X) (hev:∀x,RelD X (ev x) (va x)) (hrd:∀id r,rd id=some r→hget X.H id=some r) {c:Call} {B:Builtin} (ho:o.op= .call c) (hc:c.callee= .builtin B)
  (h:biEff P rd nid B (c.args.toList.map ev) c.argTypes.toList=some E) (hob:∀p∈E.obl,p) (hf:Free X nid E.allocs.length) (hn:b.n≤nid):Step P b X nid o va E:=by
 obtain⟨cs,hx⟩:=exec_builtin (va:=va) (P:=P) ho hc X.w;clear hc ho
 generalize hal:c.args.toList.map ev=al at h
 generalize htl:c.argTypes.toList=tl at h
 unfold biEff at h;split at h
 ·
  unfold lenEff at h;split at h
  rotate_left
  ·cases h
  rename_i x t;obtain⟨p,hp,rfl⟩:=map_one hal;rw[args_eq hp,types_eq htl] at hx;have hu:=hev p;split at h
  ·rename_i e hu';split at h
   ·rename_i n hl;simp only[sI] at h;subst h;obtain⟨A,k,e⟩:=lenD_rel hl hu;refine step_pure M (v:= .int .i64 (n:Nat)) ?_ (by simp only[RelD]);rw[hx];simp[builtin,Builtin.len_,run_underlying hu',e,goInt]
   ·cases h
  ·rename_i hu';split at h
   ·rename_i s he;rw[he] at hu;simp only[RelD] at hu;simp only[sI] at h;subst h;refine step_pure M (v:= .int .i64 (s.size:Nat)) ?_ (by simp only[RelD]);rw[hx];simp[builtin,Builtin.len_,run_underlying hu',hu,goInt]
   ·cases h
  ·rename_i n e hu';simp only[sI] at h;subst h;refine step_pure M (v:= .int .i64 (n:Nat)) ?_ (by simp only[RelD]);rw[hx];simp[builtin,Builtin.len_,run_underlying hu',goInt]
  ·cases h
 ·
  unfold capEff at h;split at h
  rotate_left
  ·cases h
  rename_i x t;obtain⟨p,hp,rfl⟩:=map_one hal;rw[args_eq hp,types_eq htl] at hx;have hu:=hev p;split at h
  ·rename_i e hu';split at h
   ·rename_i id off len k he;rw[he] at hu;simp only[sI] at h;subst h;obtain⟨A,e⟩:=capD_rel hu;refine step_pure M (v:= .int .i64 (k:Nat)) ?_ (by simp only[RelD]);rw[hx];simp[builtin,Builtin.cap_,run_underlying hu',e,goInt]
   ·cases h
  ·cases h
 ·
  unfold minEff at h;split at h
  rotate_left
  ·cases h
  rename_i k x k' y;obtain⟨p,q,hp,h1,h2⟩:=map_two hal;rw[args_eq hp] at hx;have hu:=hev p;have hv:=hev q;rw[h1] at hu;rw[h2] at hv;simp only[RelD] at hu hv;simp only[sI] at h;subst h;refine step_pure M (v:= .int k (if y<x then y else x)) ?_ (by simp only[RelD]);rw[hx];simp[builtin,Builtin.min_,Builtin.min2,hu,hv]
 ·
  unfold maxEff at h;split at h
  rotate_left
  ·cases h
  rename_i k x k' y;obtain⟨p,q,hp,h1,h2⟩:=map_two hal;rw[args_eq hp] at hx;have hu:=hev p;have hv:=hev q;rw[h1] at hu;rw[h2] at hv;simp only[RelD] at hu hv;simp only[sI] at h;subst h;refine step_pure M (v:= .int k (if y>x then y else x)) ?_ (by simp only[RelD]);rw[hx];simp[builtin,Builtin.max_,Builtin.max2,hu,hv]
 ·
  split at h
  rotate_left
  ·cases h
  rename_i s x t t';obtain⟨p,q,hp,rfl,rfl⟩:=map_two hal;rw[args_eq hp,types_eq htl] at hx;split at h
  ·rename_i e e' hu hu';obtain⟨v,X',h1,h2⟩:=bi_append (oty:=o.type) M hrd (hev p) (hev q) hu hu' h hob hf hn;refine⟨_,v,X',?_,.inl rfl,h2⟩;rw[hx];exact run_v h1
  ·cases h
 ·
  split at h
  rotate_left
  ·cases h
  rename_i s x t t';obtain⟨p,q,hp,rfl,rfl⟩:=map_two hal;rw[args_eq hp,types_eq htl] at hx;split at h
  ·rename_i e hu;unfold copyEff at h;have hs:=hev p;split at h
   ·rename_i id off len cap he;rw[he] at hs;split at h
    ·rename_i e' ty xs hr;split at h
     ·rename_i hg;simp only[Bool.and_eq_true,decide_eq_true_eq] at hg;obtain⟨⟨hg1,hg2⟩,hg3⟩:=hg;subst hg3;obtain⟨i,hi',hsz⟩:=size_info hg1 (by simpa using hg2);split at h
      ·rename_i ys hys;simp only[sI] at h;subst h;obtain⟨X',h1,h2,h3,h4⟩:=s_copy (oty:=o.type) (t':=t') M rd hrd hu hi' hsz hys (hev q) (hrd _ _ hr) hs;refine⟨_,.int .i64 ((min (List.length ys) len:Nat):Int),X',?_,.inl rfl,h2,h3,h4,by simp only[RelD]⟩;rw[hx];exact run_v h1
      ·cases h
     ·cases h
    ·cases h
   ·cases h
  ·cases h
 ·
  split at h
  rotate_left
  ·cases h
  rename_i s t;obtain⟨p,hp,rfl⟩:=map_one hal;rw[args_eq hp,types_eq htl] at hx;split at h
  ·rename_i e hu;unfold clearEff at h;have hs:=hev p;split at h
   ·rename_i id off len cap z he hz;rw[he] at hs;split at h
    ·rename_i e' ty xs hr;split at h
     ·rename_i hg;simp only[Bool.and_eq_true,decide_eq_true_eq] at hg;obtain⟨⟨hg1,hg2⟩,hg3⟩:=hg;subst hg3;split at h
      ·rename_i y hy;simp only[sI] at h;subst h;obtain⟨X',h1,h2,h3,h4⟩:=s_clear (oty:=o.type) M rd hrd hu hz hg1 (by simpa using hg2) hy (hrd _ _ hr) hs;refine⟨_,.tuple #[],X',?_,.inl rfl,h2,h3,h4,by simp only[RelD];rfl⟩;rw[hx];exact run_v h1
      ·cases h
     ·cases h
    ·cases h
   ·cases h
  ·cases h
 ·cases h
theorem op_builtin (M:Mem b X) (hev:∀x,RelD X (ev x) (va x)) (hrd:∀id r,rd id=some r→hget X.H id=some r) {c:Call} {B:Builtin} (ho:o.op= .call c) (hc:c.callee= .builtin B)
  (h:opEff P rd nid sp o ev=some E) (hob:∀p∈E.obl,p) (hf:Free X nid E.allocs.length) (hn:b.n≤nid):Step P b X nid o va E:=by
 simp only[opEff,ho,hc] at h;unfold bltEff at h;split at h
 ·split at h
  ·exact op_cl M hev hrd ho hc h hob hf hn
  ·exact op_builtin0 M hev hrd ho hc h hob hf hn
 ·exact op_builtin0 M hev hrd ho hc h hob hf hn
end
mutual
theorem renD_congr {n:Nat} {f g:Nat→Nat} (h:∀k,k<n→f k=g k):∀d:D,closedD n d=true→renD f d=renD g d
 | .v _,_| .sl _ _ _ _,_| .arr _ _,_| .lenv _,_| .top,_=>rfl
 | .own id off len cap,hc=>by
  simp only[closedD,decide_eq_true_eq] at hc;simp only[renD,h id hc]
 | .ptr id i off,hc=>by
  simp only[closedD,decide_eq_true_eq] at hc;simp only[renD,h id hc]
 | .bsl id len sz,hc=>by
  simp only[closedD,decide_eq_true_eq] at hc;simp only[renD,h id hc]
 | .rptr cs,hc=>by
  simp only[closedD] at hc;simp only[renD,renDs_congr h cs hc]
 | .agg cs,hc=>by
  simp only[closedD] at hc;simp only[renD,renDs_congr h cs hc]
 | .fn _ cs,hc=>by
  simp only[closedD] at hc;simp only[renD,renDs_congr h cs hc]
 | .tup cs,hc=>by
  simp only[closedD] at hc;simp only[renD,renDs_congr h cs hc]
theorem renDs_congr {n:Nat} {f g:Nat→Nat} (h:∀k,k<n→f k=g k):∀ds:List D,closedDs n ds=true→renDs f ds=renDs g ds
 | [],_=>rfl
 |d::ds,hc=>by
  simp only[closedDs,Bool.and_eq_true] at hc;simp only[renDs,renD_congr h d hc.1,renDs_congr h ds hc.2]
end
theorem ren_cap {cap:List Nat} {nid k:Nat} (h:k<cap.length):ren cap nid k=cap.getD k 0:=by simp[ren,h]
theorem slot_map (l:List Row) (k:Nat):slot (l.map .live) k=match l[k]? with|some r=> .live r|none=> .free:=by
 unfold slot;rw[gE,List.getElem?_map];cases l[k]? <;>rfl
theorem hget_map (l:List Row) (k:Nat):hget (l.map .live) k=l[k]? :=by
 unfold hget;rw[slot_map];cases l[k]? <;>rfl
theorem nodupB_iff:∀{l:List Nat},nodupB l=true↔l.Nodup
 | []=>by simp[nodupB]
 |a::l=>by simp[nodupB,nodupB_iff (l:=l)]
theorem getD_mem {cap:List Nat} {k:Nat} (h:k<cap.length):cap.getD k 0∈cap:=by
 rw[gE,gQ h];exact List.getElem_mem h
theorem getD_inj {cap:List Nat} (hnd:cap.Nodup) {i j:Nat} (hi:i<cap.length) (hj:j<cap.length) (h:cap.getD i 0=cap.getD j 0):i=j:=by
 rw[gE,gE,gQ hi,gQ hj] at h;exact(List.getElem_inj hnd).1 h
def softS (X:Ctx) (soft:List Nat) (k:Nat):Prop:=X.S k∨∃id,id∈soft∧hget X.H id≠none∧∃l,X.ρ id=some l∧k∈l.bs
def capρ (X:Ctx) (cap:List Nat) (k:Nat):Option Loc:=X.ρ (cap.getD k 0)
section
variable {P:Program} {b:Beg} {X:Ctx} {cap frz lent:List Nat} {pre:List Row} {nid:Nat}
def begOf (X:Ctx) (cap soft:List Nat):Beg:=⟨X.w,capρ X cap,softS X soft,cap.length⟩
def ctxOf (X:Ctx) (cap soft:List Nat) (pre:List Row):Ctx:=⟨capρ X cap,pre.map .live,softS X soft,X.w⟩
theorem pre_some (hl:pre.length=cap.length) {k:Nat}:hget (pre.map Slot.live) k≠none↔k<cap.length:=by
 rw[hget_map,←hl];constructor
 ·intro h;rcases Nat.lt_or_ge k pre.length with h1|h1
  ·exact h1
  ·rw[List.getElem?_eq_none h1] at h;exact absurd rfl h
 ·intro h;rw[gQ h];simp
theorem soft_heap (soft:List Nat):∀k,X.S k→softS X soft k∧X.w.heap[k]? =X.w.heap[k]? :=fun _ h=>⟨.inl h,rfl⟩
theorem pair_in (soft:List Nat) (hl:pre.length=cap.length) (hrows:∀k r,pre[k]? =some r→hget X.H (cap.getD k 0)=some (renRow (ren cap nid) r)):
  ∀k,Pair X (ctxOf X cap soft pre) (if k<cap.length then cap.getD k 0 else X.H.length) k:=by
 intro k;by_cases hk:k<cap.length
 ·rw[if_pos hk];have hk':k<pre.length:=by omega
  have h1:=hrows k pre[k] (gQ hk');have h2:slot (ctxOf X cap soft pre).H k= .live pre[k]:=by
   show slot (pre.map Slot.live) k=_;rw[slot_map,gQ hk']
  unfold Pair;rw[hget_live.1 h1,h2];refine⟨?_,rfl⟩;cases pre[k] with
  |box _ _=>simp[renRow,Comp]
  |data _ _ _=>simp[renRow,Comp]
  |nest _ _ _=>simp[renRow,Comp]
 ·rw[if_neg hk];have:slot X.H X.H.length= .free:=by simp[slot]
  unfold Pair;rw[this];trivial
theorem own_in {soft:List Nat} (hp:∀k,Pair X (ctxOf X cap soft pre) (if k<cap.length then cap.getD k 0 else X.H.length) k) {k off len:Nat} {c:Option Nat} {u:Value} (hk:k<cap.length)
  (h:RelD X (.own (cap.getD k 0) off len c) u):RelD (ctxOf X cap soft pre) (.own k off len c) u:=by
 have:=relD_pair (h:=fun i=>i) hp (D.own k off len c) u (.inl (soft_heap _)) (by
  simp only[renD];rw[if_pos hk];exact h)
 simpa only[renD] using this
theorem ptr_in {soft:List Nat} (hp:∀k,Pair X (ctxOf X cap soft pre) (if k<cap.length then cap.getD k 0 else X.H.length) k) {k i off:Nat} {u:Value} (hk:k<cap.length)
  (h:RelD X (.ptr (cap.getD k 0) i off) u):RelD (ctxOf X cap soft pre) (.ptr k i off) u:=by
 have:=relD_pair (h:=fun i=>i) hp (D.ptr k i off) u (.inl (soft_heap _)) (by
  simp only[renD];rw[if_pos hk];exact h)
 simpa only[renD] using this
theorem bsl_in {soft:List Nat} (hp:∀k,Pair X (ctxOf X cap soft pre) (if k<cap.length then cap.getD k 0 else X.H.length) k) {k len sz:Nat} {u:Value} (hk:k<cap.length)
  (h:RelD X (.bsl (cap.getD k 0) len sz) u):RelD (ctxOf X cap soft pre) (.bsl k len sz) u:=by
 have:=relD_pair (h:=fun i=>i) hp (D.bsl k len sz) u (.inl (soft_heap _)) (by
  simp only[renD];rw[if_pos hk];exact h)
 simpa only[renD] using this
theorem lent_box (M:Mem b X) {soft:List Nat} {id i off:Nat} {u:Value} (hs:id∈soft) {bt:TypeId} {cs:List D} (hr:hget X.H id=some (.box bt cs)) (h:RelD X (.ptr id i off) u):
  ∃a us,u= .pointer (some a)∧RelDs X (cs.drop off) us∧At (softS X soft) X.w (some a) us:=by
 obtain⟨l,acs,ty,hρ,e,hb,hcs,h0,us,e1,h1,_⟩:=ptr_cells M h hr;subst e1;refine⟨⟨l.b,l.o+off,none⟩,us.drop off,e,relDs_drop off h1,?_⟩;intro j v hj;refine⟨_,rfl,?_,?_⟩
 ·exact .inr ⟨id,hs,by rw[hr];simp,l,hρ,l.b_in⟩
 ·rw[add_plain,h0];rw[List.getElem?_drop] at hj;unfold World.cell?;simp only[hb];simpa using hj
theorem mem_callee (M:Mem b X) (hl:pre.length=cap.length) (hnd:(cap++frz).Nodup) (hcl:∀i∈cap,i∉lent) (hclosed:pre.all (closedRow cap.length)=true)
  (hrows:∀k r,pre[k]? =some r→hget X.H (cap.getD k 0)=some (renRow (ren cap nid) r)):
  Mem (begOf X cap (lent++frz)) (ctxOf X cap (lent++frz) pre):=by
 have hlive:∀k,k<cap.length→hget X.H (cap.getD k 0)≠none:=by
  intro k hk;have hk':k<pre.length:=by omega
  rw[hrows k pre[k] (gQ hk')];simp
 have hsoft:∀k,k<cap.length→cap.getD k 0∉lent++frz:=by
  intro k hk hm;have hm1:=getD_mem hk;rcases List.mem_append.1 hm with h|h
  ·exact hcl _ hm1 h
  ·exact(List.nodup_append.1 hnd).2.2 _ hm1 _ h rfl
 refine⟨rfl,rfl,rfl,Nat.le_refl _,?_,?_,?_,?_,fun _ _ _=>rfl,?_,fun _ _ _=>rfl,fun _ h=>h,fun _ h=> .inl h,M.glob.le (soft_heap _),?_⟩
 ·intro i j p q hi hj hp hq k hkp hkq;have hi':=(pre_some hl).1 hi;have hj':=(pre_some hl).1 hj;exact getD_inj (List.nodup_append.1 hnd).1 hi' hj' (M.inj _ _ _ _ (hlive i hi') (hlive j hj') hp hq k hkp hkq)
 ·intro id r hr;have hid:id<cap.length:=(pre_some hl).1 (by show hget (ctxOf X cap (lent++frz) pre).H id≠none;rw[hr];simp);have hr':pre[id]? =some r:=by rw[←hget_map];exact hr
  have hrow:=M.rows _ _ (hrows id r hr');have hcr:closedRow cap.length r=true:=by
   rw[List.all_eq_true] at hclosed;exact hclosed r (List.mem_of_getElem? hr')
  show RelRow _ r (X.ρ (cap.getD id 0));cases r with
  |nest k xs hh=>
   simp only[renRow] at hrow;refine relRow_nest (X:=X) (Y:=ctxOf X cap (lent++frz) pre) (soft_heap _) (fun _ _ _ _=>rfl) ?_ hrow;cases hh with
   |none=>trivial
   |some q=>
    obtain⟨i,d⟩:=q;refine⟨rfl,fun v hv=> ?_⟩;rw[renD_congr (n:=cap.length) (g:=fun k=>if k<cap.length then cap.getD k 0 else X.H.length) (fun k hk=>by rw[ren_cap hk,if_pos hk]) d (by simpa [closedRow] using hcr)] at hv;have:=relD_pair (h:=fun i=>i) (pair_in (lent++frz) hl hrows) d v (.inl (soft_heap _)) hv;rwa [renD_id] at this
  |box bt ds=>
   cases hρ:X.ρ (cap.getD id 0) with
   |none=>rw[hρ] at hrow;exact hrow
   |some l=>
    rw[hρ] at hrow;obtain⟨cs,ty,h1,h2,h3⟩:=hrow;refine⟨cs,ty,h1,h2,?_⟩;obtain⟨e,us,e1,h4,h5⟩:=h3;refine⟨e,us,e1,?_,h5⟩;rw[renDs_congr (n:=cap.length) (g:=fun k=>if k<cap.length then cap.getD k 0 else X.H.length) (fun k hk=>by rw[ren_cap hk,if_pos hk]) ds (by simpa [closedRow] using hcr)] at h4;have:=relDs_pair (h:=fun i=>i) (pair_in (lent++frz) hl hrows) ds us (.inl (soft_heap _)) h4;rwa [renDs_id] at this
  |data e t xs=>
   cases hρ:X.ρ (cap.getD id 0) with
   |none=>rw[hρ] at hrow;exact hrow
   |some l=>
    rw[hρ] at hrow;obtain⟨cs,ty,h1,h2,h3⟩:=hrow;refine⟨cs,ty,h1,h2,?_⟩;obtain⟨e1,us,h4,h5,h6⟩:=h3;exact⟨e1,us,Reps_mono (RelE_mono (soft_heap _) t) xs us h4,h5,h6⟩
 ·intro id p hid hp k hk hS;have hid':=(pre_some hl).1 hid;rcases hS with hS|⟨i,hi,hi2,l,hl1,hl2⟩
  ·exact M.sep _ p (hlive id hid') hp k hk hS
  ·have:=M.inj _ _ _ _ (hlive id hid') hi2 hp hl1 k hk hl2;rw[←this] at hi;exact hsoft id hid' hi
 ·intro k hk;rcases hk with hk|⟨i,hi,hi2,l,hl1,hl2⟩
  ·exact M.stab k hk
  ·exact M.lts hi2 hl1 k hl2
 ·intro id p hid hp k hk;exact .inr ⟨id,p,(pre_some hl).1 hid,hp,hk⟩
 ·intro id r p hr hp;have hid:id<cap.length:=(pre_some hl).1 (by show hget (ctxOf X cap (lent++frz) pre).H id≠none;rw[hr];simp);have hr':pre[id]? =some r:=by rw[←hget_map];exact hr
  have:=M.ok _ _ p (hrows id r hr') hp;cases r<;>exact this
theorem fit_own_ro (M:Mem b X) {rd:Nat→Option Row} (hrd:∀id r,rd id=some r→hget X.H id=some r) {soft:List Nat} {id off len:Nat} {c:Option Nat} {t':Ty} {xs' xs:List t'.El} {u:Value}
  (hs:id∈soft) (hr:rowData rd id off len t'=some xs) (he:xs=xs') (h:RelD X (.own id off len c) u):RelD (ctxOf X cap soft pre) (.sl false false t' xs') u:=by
 subst he;have hl:hget X.H id≠none:=by
  rcases rowData_some hr with⟨e,ys,h1,_⟩|⟨k,ys,h1,_⟩<;>rw[hrd _ _ h1]<;>simp
 obtain⟨_,A,c',us',e1,h1,h2,h3,h4,h5⟩:=own_seq (S':=softS X soft) M (fun _ h=> .inl h) hrd hr (fun l hl' k hk=> .inr ⟨id,hs,hl,l,hl',hk⟩) h;simp only[RelD];exact⟨A,c',us',e1,h1,h2,by simp,by simp,h3,h4⟩
mutual
theorem fit_rel (M:Mem b X) {rd:Nat→Option Row} (hrd:∀id r,rd id=some r→hget X.H id=some r) (soft:List Nat) (hl:pre.length=cap.length)
  (hrows:∀k r,pre[k]? =some r→hget X.H (cap.getD k 0)=some (renRow (ren cap nid) r)):
  ∀(d e:D) (u:Value) (ps:List Prop),fit rd (ren cap nid) soft d e=some ps→(∀p∈ps,p)→closedD cap.length e=true→RelD X d u→RelD (ctxOf X cap soft pre) e u:=by
 intro d e u ps h hps hce hr;unfold fit at h;split at h
 ·simp only[sI] at h;subst h;have:=hps _ (List.mem_singleton.2 rfl);subst this;simpa only[RelD] using hr
 ·simp only[sI] at h;subst h;have:=hps _ (List.mem_singleton.2 rfl);subst this;simp only[RelD] at hr⊢;exact⟨none,0,[],hr,Nat.le_refl _,fun _=>rfl,by simp,by simp,rfl,fun j u hj=>by simp at hj⟩
 ·split at h
  ·rename_i ht;subst ht;simp only[sI] at h;subst h;have:=hps _ (List.mem_singleton.2 rfl);subst this;simp only[RelD] at hr⊢;obtain⟨A,c,us,e,h1,h2,_,_,h5,h6⟩:=hr;exact⟨A,c,us,e,h1,h2,by simp,by simp,Reps_mono (RelE_mono (soft_heap soft) _) _ us h5,At_mono (soft_heap soft) h6⟩
  ·cases h
 ·split at h
  ·rename_i ht;subst ht;simp only[sI] at h;subst h;have:=hps _ (List.mem_singleton.2 rfl);subst this;simp only[RelD] at hr⊢;obtain⟨A,c,us,e,h1,h2,h3,_,h5,h6⟩:=hr;exact⟨A,c,us,e,h1,h2,h3,by simp,Reps_mono (RelE_mono (soft_heap soft) _) _ us h5,At_mono (soft_heap soft) h6⟩
  ·cases h
 ·split at h
  ·rename_i hs;split at h
   ·rename_i xs hx;simp only[sI] at h;subst h;exact fit_own_ro M hrd (by simpa using hs) hx (hps _ (List.mem_singleton.2 rfl)) hr
   ·cases h
  ·cases h
 ·split at h
  ·cases h
  ·split at h
   all_goals split at h
   all_goals first
    |(cases h;done)
    |(simp only[sI] at h
      subst h;simp only[List.mem_cons,List.not_mem_nil,or_false,forall_eq_or_imp,forall_eq] at hps;simp only[closedD,decide_eq_true_eq] at hce;have hp:=pair_in (X:=X) soft hl hrows;have hid:=hps.1;rw[ren_cap hce] at hid;subst hid;obtain⟨_,h2,h3⟩:=hps;first
       |(subst h2;subst h3;exact own_in hp hce hr)
       |(obtain⟨h3,h4⟩:=h3;subst h2;subst h3;subst h4;exact own_in hp hce hr))
 ·split at h
  ·rename_i ht;subst ht;simp only[sI] at h;subst h;have:=hps _ (List.mem_singleton.2 rfl);subst this;simp only[RelD] at hr⊢;obtain⟨us,e,h1⟩:=hr;exact⟨us,e,Reps_mono (RelE_mono (soft_heap soft) _) _ us h1⟩
  ·cases h
 ·simp only[sI] at h;subst h;simp only[List.mem_cons,List.not_mem_nil,or_false,forall_eq_or_imp,forall_eq] at hps;simp only[closedD,decide_eq_true_eq] at hce;have hp:=pair_in (X:=X) soft hl hrows;have hid:=hps.1;rw[ren_cap hce] at hid;subst hid;obtain⟨_,h2,h3⟩:=hps;subst h2;subst h3;exact ptr_in hp hce hr
 ·split at h
  ·cases h
  ·simp only[sI] at h;subst h;simp only[List.mem_cons,List.not_mem_nil,or_false,forall_eq_or_imp,forall_eq] at hps;simp only[closedD,decide_eq_true_eq] at hce;have hp:=pair_in (X:=X) soft hl hrows;have hid:=hps.1;rw[ren_cap hce] at hid;subst hid;obtain⟨_,h2,h3⟩:=hps;subst h2;subst h3;exact bsl_in hp hce hr
 ·rename_i id i off cs';split at h
  ·rename_i hs;split at h
   ·rename_i bt cs hx;simp only[closedD] at hce;obtain⟨a,us,e,h1,h2⟩:=lent_box M (by simpa using hs) (hrd _ _ hx) hr;simp only[RelD];exact⟨a,us,e,fits_rel M hrd soft hl hrows _ cs' us ps h hps hce h1,h2⟩
   ·cases h
  ·cases h
 ·rename_i cs cs';simp only[closedD] at hce;simp only[RelD] at hr⊢;obtain⟨us,e,h1⟩:=hr;exact⟨us,e,fits_rel M hrd soft hl hrows cs cs' us ps h hps hce h1⟩
 ·rename_i g cs g' cs';split at h
  ·rename_i hg;subst hg;simp only[closedD] at hce;simp only[RelD] at hr⊢;obtain⟨us,e,h1⟩:=hr;exact⟨us,e,fits_rel M hrd soft hl hrows cs cs' us ps h hps hce h1⟩
  ·cases h
 ·rename_i cs cs';simp only[closedD] at hce;simp only[RelD] at hr⊢;obtain⟨a,us,e,h1,h2⟩:=hr;exact⟨a,us,e,fits_rel M hrd soft hl hrows cs cs' us ps h hps hce h1,At_mono (soft_heap soft) h2⟩
 ·simp only[RelD]
 ·cases h
termination_by _ e=>SizeOf.sizeOf e
theorem fits_rel (M:Mem b X) {rd:Nat→Option Row} (hrd:∀id r,rd id=some r→hget X.H id=some r) (soft:List Nat) (hl:pre.length=cap.length)
  (hrows:∀k r,pre[k]? =some r→hget X.H (cap.getD k 0)=some (renRow (ren cap nid) r)):
  ∀(ds es:List D) (us:List Value) (ps:List Prop),fits rd (ren cap nid) soft ds es=some ps→(∀p∈ps,p)→closedDs cap.length es=true→RelDs X ds us→RelDs (ctxOf X cap soft pre) es us
 | [],[],us,ps,h,hps,hce,hr=>by simpa only[RelDs] using hr
 |d::ds,e::es,us,ps,h,hps,hce,hr=>by
  simp only[fits] at h;split at h
  ·rename_i p q hp hq;simp only[sI] at h;subst h;simp only[closedDs,Bool.and_eq_true] at hce;simp only[RelDs] at hr⊢;obtain⟨u,us',e1,h1,h2⟩:=hr;exact⟨u,us',e1,fit_rel M hrd soft hl hrows d e u p hp (fun x hx=>hps x (List.mem_append_left _ hx)) hce.1 h1,fits_rel M hrd soft hl hrows ds es us' q hq (fun x hx=>hps x (List.mem_append_right _ hx)) hce.2 h2⟩
  ·cases h
 | [],_::_,us,ps,h,_,_,_=>by simp[fits] at h
 |_::_,[],us,ps,h,_,_,_=>by simp[fits] at h
termination_by _ es=>SizeOf.sizeOf es
end
end
theorem slot_setWrites_mem:∀(ws:List (Nat×Option Row)) (H:Heap) {id:Nat} {r:Option Row},(ws.map Prod.fst).Nodup→(id,r)∈ws→id<H.length→slot (setWrites H ws) id=slotOf r
 | [],_,_,_,_,hm,_=>by simp at hm
 |(i,r0)::ws,H,id',r,hnd,hm,hl=>by
  simp only[List.map_cons,List.nodup_cons] at hnd;simp only[setWrites];rcases List.mem_cons.1 hm with h|h
  ·cases h;rw[slot_setWrites ws _ _ (fun p hp e=>hnd.1 (by rw[←e];exact List.mem_map_of_mem hp)),slot_set];simp[hl]
  ·exact slot_setWrites_mem ws _ hnd.2 h (by simpa using hl)
theorem setAllocs_length:∀(rs:List Row) (H:Heap) (n:Nat),(setAllocs H n rs).length=H.length
 | [],_,_=>rfl
 |r::rs,H,n=>by simp only[setAllocs];rw[setAllocs_length rs];simp
theorem slot_setAllocs_out:∀(rs:List Row) (H:Heap) (n:Nat) {id:Nat},(id<n∨n+rs.length≤id)→slot (setAllocs H n rs) id=slot H id
 | [],_,_,_,_=>rfl
 |r::rs,H,n,id,h=>by
  simp only[setAllocs];rw[slot_setAllocs_out rs _ (n+1) (by simp at h;omega),slot_set,if_neg (by simp at h;omega)]
theorem slot_setAllocs_in:∀(rs:List Row) (H:Heap) (n:Nat) {j:Nat} {r:Row},rs[j]? =some r→n+j<H.length→slot (setAllocs H n rs) (n+j)= .live r
 | [],_,_,_,_,h,_=>by simp at h
 |r0::rs,H,n,0,r,h,hl=>by
  simp only[List.getElem?_cons_zero,sI] at h;subst h;simp only[setAllocs];rw[slot_setAllocs_out rs _ (n+1) (by omega),slot_set];simp at hl⊢;omega
 |r0::rs,H,n,j+1,r,h,hl=>by
  simp only[List.getElem?_cons_succ] at h;simp only[setAllocs];have:=slot_setAllocs_in rs (H.set n (.live r0)) (n+1) h (by simp;omega);rw[show n+(j+1)=n+1+j by omega];exact this
theorem comp_ren {f:Nat→Nat} {r r':Row} (h:Comp r r'):Comp (renRow f r) (renRow f r'):=by
 cases r<;>cases r'<;>simp_all[renRow,Comp,Row.dims]
theorem comp_self_ren (f:Nat→Nat) (r:Row):Comp r (renRow f r):=by
 cases r<;>simp[renRow,Comp,Row.dims]
def ixOf:List Nat→Nat→Nat
 | [],_=>0
 |a::l,x=>if a=x then 0 else ixOf l x+1
theorem ixOf_get:∀{cap:List Nat} {k:Nat},cap.Nodup→k<cap.length→ixOf cap (cap.getD k 0)=k
 | [],k,_,h=>by simp at h
 |a::l,0,_,_=>by simp[ixOf]
 |a::l,k+1,hnd,h=>by
  have h':k<l.length:=by simpa using h
  rw[List.nodup_cons] at hnd;have hm:l.getD k 0∈l:=by
   rw[gE,gQ h'];exact List.getElem_mem h'
  have hne:a≠l.getD k 0:=fun e=>hnd.1 (by rw[e];exact hm);simp only[List.getD_cons_succ,ixOf];rw[if_neg hne,ixOf_get hnd.2 h']
theorem okLoc_ren {f:Nat→Nat} {r:Row} {l:Loc} (h:r.okLoc l):(renRow f r).okLoc l:=by cases r<;>exact h
theorem mem_zip_fst {α β:Type} {l:List α} {l':List β} (h:l.length=l'.length):(l.zip l').map Prod.fst=l:=List.map_fst_zip (by omega)
section
variable {P:Program} {b:Beg} {X:Ctx} {cap frz lent:List Nat} {pre allocs:List Row} {post:List (Option Row)} {nid:Nat}
def backH (X:Ctx) (cap frz:List Nat) (nid:Nat) (post:List (Option Row)) (allocs:List Row):Heap:=
 setWrites (setAllocs X.H nid (allocs.map (renRow (ren cap nid)))) (cap.zip (post.map (Option.map (renRow (ren cap nid))))++frz.map fun i=>(i,none))
def backρ (X:Ctx) (cap:List Nat) (nid:Nat) (allocs:List Row) (ρ':Nat→Option Loc) (id:Nat):Option Loc:=
 if nid≤id∧id<nid+allocs.length then ρ' (cap.length+(id-nid)) else if id∈cap then ρ' (ixOf cap id) else X.ρ id
def backS (X:Ctx) (cap frz soft:List Nat) (S':Nat→Prop) (k:Nat):Prop:=softS X frz k∨(S' k∧(X.w.heap.size≤k∨(begOf X cap soft).B k))
structure Back (X:Ctx) (cap frz:List Nat) (nid:Nat) (post:List (Option Row)) (allocs:List Row):Prop where
 out:∀id,id∉cap→id∉frz→(id<nid∨nid+allocs.length≤id)→slot (backH X cap frz nid post allocs) id=slot X.H id
 caps:∀k r,k<cap.length→post[k]? =some r→slot (backH X cap frz nid post allocs) (cap.getD k 0)=slotOf (r.map (renRow (ren cap nid)))
 frzs:∀id,id∈frz→slot (backH X cap frz nid post allocs) id= .dead
 new:∀j r,allocs[j]? =some r→slot (backH X cap frz nid post allocs) (nid+j)= .live (renRow (ren cap nid) r)
theorem back_slots (hpl:post.length=cap.length) (hnd:(cap++frz).Nodup) (hcap:∀i∈cap,hget X.H i≠none) (hfrz:∀i∈frz,hget X.H i≠none) (hf:Free X nid allocs.length):Back X cap frz nid post allocs:=by
 have hlt:∀i,hget X.H i≠none→i<X.H.length∧(i<nid∨nid+allocs.length≤i):=by
  intro i hi;have hs:slot X.H i≠ .free:=by
   intro e;unfold hget at hi;rw[e] at hi;exact hi rfl
  refine⟨lt_of_slot hs,?_⟩;rcases Nat.lt_or_ge i nid with h|h
  ·exact .inl h
  ·rcases Nat.lt_or_ge i (nid+allocs.length) with h2|h2
   ·exact absurd (by rw[show i=nid+(i-nid) by omega];exact(hf (i-nid) (by omega)).1) hs
   ·exact .inr h2
 have hkeys:((cap.zip (post.map (Option.map (renRow (ren cap nid))))++frz.map fun i=>(i,(none:Option Row))).map Prod.fst)=cap++frz:=by
  rw[List.map_append,mem_zip_fst (by simp[hpl]),List.map_map];have:(Prod.fst∘fun i=>(i,(none:Option Row)))=fun i:Nat=>i:=rfl;rw[this,List.map_id']
 have hout:∀id,id∉cap→id∉frz→slot (backH X cap frz nid post allocs) id=slot (setAllocs X.H nid (allocs.map (renRow (ren cap nid)))) id:=by
  intro id h1 h2;refine slot_setWrites _ _ id fun p hp e=> ?_;have hm:=List.mem_map_of_mem (f:=Prod.fst) hp;rw[hkeys,e] at hm;rcases List.mem_append.1 hm with h|h
  ·exact h1 h
  ·exact h2 h
 refine⟨?_,?_,?_,?_⟩
 ·intro id h1 h2 h3;rw[hout id h1 h2];exact slot_setAllocs_out _ _ _ (by simpa using h3)
 ·intro k r hk hr;refine slot_setWrites_mem _ _ (by rw[hkeys];exact hnd) (List.mem_append_left _ ?_) (by rw[setAllocs_length];exact(hlt _ (hcap _ (getD_mem hk))).1);refine List.mem_of_getElem? (i:=k) ?_;rw[List.getElem?_zip_eq_some];rw[gE,gQ hk];exact⟨rfl,by simp[hr]⟩
 ·intro id h;exact slot_setWrites_mem _ _ (r:=none) (by rw[hkeys];exact hnd) (List.mem_append_right _ (List.mem_map_of_mem (f:=fun i=>(i,none)) h)) (by rw[setAllocs_length];exact(hlt _ (hfrz _ h)).1)
 ·intro j r hj;have hjl:j<allocs.length:=(List.getElem?_eq_some_iff.1 hj).1;have hfree:=hf j hjl;have hno:∀i,hget X.H i≠none→i≠nid+j:=by
   intro i hi e;have:=(hlt i hi).2;omega
  rw[hout _ (fun h=>hno _ (hcap _ h) rfl) (fun h=>hno _ (hfrz _ h) rfl)];exact slot_setAllocs_in _ _ _ (by simp[hj]) hfree.2
theorem slot_post (post:List (Option Row)) (allocs:List Row) {k:Nat} {r:Option Row} (h:post[k]? =some r):slot (post.map slotOf++allocs.map .live) k=slotOf r:=by
 unfold slot;have hk:k<post.length:=(List.getElem?_eq_some_iff.1 h).1;rw[gE,List.getElem?_append_left (by simpa using hk),List.getElem?_map,h];rfl
theorem slot_new (post:List (Option Row)) (allocs:List Row) (j:Nat):slot (post.map slotOf++allocs.map .live) (post.length+j)=match allocs[j]? with|some r=> .live r|none=> .free:=by
 unfold slot;rw[gE,List.getElem?_append_right (by simp)];simp only[List.length_map,Nat.add_sub_cancel_left,List.getElem?_map];cases allocs[j]? <;>rfl
theorem mem_called (M:Mem b X) (hl:pre.length=cap.length) (hpl:post.length=cap.length) (hnd:(cap++frz).Nodup) (hcl:∀i∈cap,i∉lent)
  (hrows:∀k r,pre[k]? =some r→hget X.H (cap.getD k 0)=some (renRow (ren cap nid) r)) (hfrz:∀i∈frz,hget X.H i≠none)
  (hshape:∀(k:Nat) (r r':Row),pre[k]? =some r→post[k]? =some (some r')→Comp r r')
  (hf:Free X nid allocs.length) (hn:b.n≤nid) {val:D} {v:Value} {ρ':Nat→Option Loc} {S':Nat→Prop} {w':World}
  (hflat:lent=[]∨(flatD val=true∧(∀r∈allocs,flatRow r=true)∧∀r,some r∈post→flatRow r=true))
  (M1:Mem (begOf X cap (lent++frz)) ⟨ρ',post.map slotOf++allocs.map .live,S',w'⟩) (hv:RelD ⟨ρ',post.map slotOf++allocs.map .live,S',w'⟩ val v):
  Mem b ⟨backρ X cap nid allocs ρ',backH X cap frz nid post allocs,backS X cap frz (lent++frz) S',w'⟩∧
   Le X ⟨backρ X cap nid allocs ρ',backH X cap frz nid post allocs,backS X cap frz (lent++frz) S',w'⟩∧
   RelD ⟨backρ X cap nid allocs ρ',backH X cap frz nid post allocs,backS X cap frz (lent++frz) S',w'⟩ (renD (ren cap nid) val) v:=by
 generalize hX1:(⟨ρ',post.map slotOf++allocs.map .live,S',w'⟩:Ctx)=X1 at M1 hv
 generalize hX2:(⟨backρ X cap nid allocs ρ',backH X cap frz nid post allocs,backS X cap frz (lent++frz) S',w'⟩:Ctx)=X2
 have e1H:X1.H=post.map slotOf++allocs.map .live:=by rw[←hX1]
 have e1ρ:X1.ρ=ρ':=by rw[←hX1]
 have e1S:X1.S=S':=by rw[←hX1]
 have e1w:X1.w=w':=by rw[←hX1]
 have e2H:X2.H=backH X cap frz nid post allocs:=by rw[←hX2]
 have e2ρ:X2.ρ=backρ X cap nid allocs ρ':=by rw[←hX2]
 have e2S:X2.S=backS X cap frz (lent++frz) S':=by rw[←hX2]
 have e2w:X2.w=w':=by rw[←hX2]
 clear hX1 hX2
 have hcapL:∀k,k<cap.length→hget X.H (cap.getD k 0)≠none:=by
  intro k hk;have hk':k<pre.length:=by omega
  rw[hrows k pre[k] (gQ hk')];simp
 have hcapM:∀i∈cap,hget X.H i≠none:=by
  intro i hi;obtain⟨k,hk,rfl⟩:=List.getElem_of_mem hi;have:=hcapL k hk;rwa [gE,gQ hk] at this
 have B:=back_slots (post:=post) hpl hnd hcapM hfrz hf;have hnodup:=List.nodup_append.1 hnd;have hrange:∀i,hget X.H i≠none→¬(nid≤i∧i<nid+allocs.length):=by
  intro i hi hc;have:=(hf (i-nid) (by omega)).1;rw[show nid+(i-nid)=i by omega] at this;unfold hget at hi;rw[this] at hi;exact hi rfl
 have hρold:∀i,hget X.H i≠none→i∉cap→X2.ρ i=X.ρ i:=by
  intro i hi hc;rw[e2ρ];unfold backρ;rw[if_neg (hrange i hi),if_neg hc]
 have hρcap:∀k,k<cap.length→X2.ρ (cap.getD k 0)=X1.ρ k:=by
  intro k hk;rw[e2ρ,e1ρ];unfold backρ;rw[if_neg (hrange _ (hcapL k hk)),if_pos (getD_mem hk),ixOf_get hnodup.1 hk]
 have hρnew:∀j,j<allocs.length→X2.ρ (nid+j)=X1.ρ (cap.length+j):=by
  intro j hj;rw[e2ρ,e1ρ];unfold backρ;rw[if_pos (by omega)];congr 1
  omega
 have h1cap:∀k r0,post[k]? =some (some r0)→hget X1.H k=some r0:=by
  intro k r0 h;rw[hget_live,e1H];exact slot_post post allocs h
 have h1new:∀j r0,allocs[j]? =some r0→hget X1.H (cap.length+j)=some r0:=by
  intro j r0 h;rw[hget_live,e1H,←hpl,slot_new,h]
 have hren:∀j,ren cap nid (cap.length+j)=nid+j:=by
  intro j;unfold ren;rw[if_neg (by omega)];omega
 have classes:∀id r,hget X2.H id=some r→
   (hget X.H id=some r∧id∉cap∧id∉frz∧X2.ρ id=X.ρ id)∨
   (∃m r0,hget X1.H m=some r0∧id=ren cap nid m∧r=renRow (ren cap nid) r0∧X2.ρ id=X1.ρ m∧(some r0∈post∨r0∈allocs)∧((m<cap.length∧id=cap.getD m 0)∨nid≤id)):=by
  intro id r hr;rw[e2H] at hr;have hs:=hget_live.1 hr;by_cases h1:id∈cap
  ·obtain⟨k,hk,he⟩:=List.getElem_of_mem h1;have he':id=cap.getD k 0:=by rw[gE,gQ hk];exact he.symm
   have hk':k<post.length:=by omega
   have:=B.caps k post[k] hk (gQ hk');rw[←he',hs] at this;cases hp:post[k] with
   |none=>rw[hp] at this;simp[slotOf] at this
   |some r0=>
    rw[hp] at this;simp only[Option.map_some,slotOf,Slot.live.injEq] at this;have hpk:post[k]? =some (some r0):=by rw[gQ hk',hp]
    exact .inr ⟨k,r0,h1cap k r0 hpk,by rw[ren_cap hk];exact he',this,by rw[he'];exact hρcap k hk,.inl (List.mem_of_getElem? hpk),.inl ⟨hk,he'⟩⟩
  ·by_cases h2:id∈frz
   ·have:=B.frzs id h2;rw[hs] at this;simp at this
   ·by_cases h3:id<nid∨nid+allocs.length≤id
    ·have:=B.out id h1 h2 h3;rw[hs] at this;have h4:=hget_live.2 this.symm;exact .inl ⟨h4,h1,h2,hρold id (by rw[h4];simp) h1⟩
    ·have hj:id-nid<allocs.length:=by omega
     have:=B.new (id-nid) allocs[id-nid] (gQ hj);rw[show nid+(id-nid)=id by omega,hs] at this;simp only[Slot.live.injEq] at this;refine .inr ⟨cap.length+(id-nid),_,h1new _ _ (gQ hj),by rw[hren];omega,this,?_,.inr (List.getElem_mem hj),.inr (by omega)⟩;rw[←hρnew _ hj];congr 1
     omega
 have h1pl:∀k r0,k<cap.length→post[k]? =some (some r0)→X1.pl k=X.pl (cap.getD k 0):=by
  intro k r0 hk h;exact M1.old k hk (by rw[h1cap k r0 h];simp)
 have hBiff:∀k,(begOf X cap (lent++frz)).B k→∃i l,i∈cap∧hget X.H i≠none∧X.ρ i=some l∧k∈l.bs:=by
  rintro k ⟨id,l,hid,hρ,hb⟩
  exact⟨cap.getD id 0,l,getD_mem hid,hcapL id hid,hρ,hb⟩
 have hnotB:∀i l,hget X.H i≠none→i∉cap→X.ρ i=some l→∀k∈l.bs,¬(begOf X cap (lent++frz)).B k:=by
  intro i l hi hic hρ k hk hB;obtain⟨i',l',h1,h2,h3,h4⟩:=hBiff _ hB;have:=M.inj i i' l l' hi h2 hρ h3 k hk h4;exact hic (this▸h1)
 have hkeep:∀k,k<X.w.heap.size→¬(begOf X cap (lent++frz)).B k→X2.w.heap[k]? =X.w.heap[k]? :=by
  intro k hk hB;rw[e2w,←e1w];exact M1.keep k hk hB
 have hsz:X.w.heap.size≤X2.w.heap.size:=by
  rw[e2w,←e1w];exact M1.size
 have hstX:∀k,X.S k→X2.S k∧X2.w.heap[k]? =X.w.heap[k]? :=by
  intro k hk;refine⟨by rw[e2S];exact .inl (.inl hk),hkeep k (M.stab k hk) ?_⟩;intro hB;obtain⟨i',l',h1,h2,h3,h4⟩:=hBiff _ hB;exact M.sep i' l' h2 h3 k h4 hk
 have hstab1:lent=[]→∀k,X1.S k→X2.S k∧X2.w.heap[k]? =X1.w.heap[k]? :=by
  intro h k hk;refine⟨?_,by rw[e2w,e1w]⟩;rw[e2S];rcases M1.sup k hk with h1|h1
  ·refine .inl ?_;rw[h] at h1;exact h1
  ·exact .inr ⟨by rw[←e1S];exact hk,h1⟩
 have hpl2:∀m m',X2.ρ m'=X1.ρ m→X2.pl m'=X1.pl m:=fun m m' h=>by unfold Ctx.pl;rw[h]
 have hpair:∀id,Pair X1 X2 id (ren cap nid id):=by
  intro id;by_cases hid:id<cap.length
  ·rw[ren_cap hid];have hid':id<post.length:=by omega
   have h1:slot X1.H id=slotOf post[id]:=by rw[e1H];exact slot_post post allocs (gQ hid')
   have h2:slot X2.H (cap.getD id 0)=slotOf (post[id].map (renRow (ren cap nid))):=by rw[e2H];exact B.caps id _ hid (gQ hid')
   unfold Pair;rw[h1,h2];cases hp:post[id] with
   |none=>simp[slotOf]
   |some r0=>
    simp only[Option.map_some,slotOf];exact⟨comp_self_ren _ _,hpl2 _ _ (hρcap id hid)⟩
  ·obtain⟨j,rfl⟩:∃j,id=cap.length+j:=⟨id-cap.length,by omega⟩;rw[hren j];have h1:slot X1.H (cap.length+j)=match allocs[j]? with|some r=> .live r|none=> .free:=by rw[e1H,←hpl];exact slot_new post allocs j
   unfold Pair;rw[h1];cases hj:allocs[j]? with
   |none=>trivial
   |some r0=>
    have h2:slot X2.H (nid+j)= .live (renRow (ren cap nid) r0):=by rw[e2H];exact B.new j r0 hj
    rw[h2];exact⟨comp_self_ren _ _,hpl2 _ _ (hρnew j (List.getElem?_eq_some_iff.1 hj).1)⟩
 have hpair':∀id,Pair X1 X2 ((fun i=>i) id) (ren cap nid id):=hpair;have hrow1:∀(r:Row) (p:Option Loc),(lent=[]∨flatRow r=true)→RelRow X1 r p→RelRow X2 (renRow (ren cap nid) r) p:=by
  intro r p hfl hr;cases r with
  |nest k xs hh=>
   by_cases hfr:flatRow (.nest k xs hh)=true
   ·cases hh with
    |some q=>simp[flatRow] at hfr
    |none=>exact relRow_nest_flat (by rw[e2w,e1w]) hfr hr
   have hfl':lent=[]:=hfl.resolve_right hfr;have hst1:=hstab1 hfl';simp only[renRow];refine relRow_nest hst1 (fun _ _ _ _=>by rw[e2w,e1w]) ?_ hr;cases hh with
   |none=>trivial
   |some q=>
    obtain⟨i,d⟩:=q;exact⟨rfl,fun v hv=>relD_pair hpair' d v (.inl hst1) (by rw[renD_id];exact hv)⟩
  |box bt ds=>
   cases p with
   |none=>exact hr
   |some l=>
    obtain⟨cs,ty,h1,h2,h3⟩:=hr;refine⟨cs,ty,by rw[e2w,←e1w];exact h1,h2,?_⟩;obtain⟨e,us,e1,h4,h5⟩:=h3;refine⟨e,us,e1,relDs_pair hpair' ds us ?_ (by rw[renDs_id];exact h4),h5⟩;exact hfl.imp hstab1 (fun h=>by simpa [flatRow] using h)
  |data e t xs=>
   cases p with
   |none=>exact hr
   |some l=>
    obtain⟨cs,ty,h1,h2,h3⟩:=hr;refine⟨cs,ty,by rw[e2w,←e1w];exact h1,h2,?_⟩;obtain⟨e1,us,h4,h5,h6⟩:=h3;refine⟨e1,us,?_,h5,h6⟩;rcases hfl with hfl|hfl
    ·exact Reps_mono (RelE_mono (hstab1 hfl) t) xs us h4
    ·exact Reps_mono (fun x us=>RelE_flat t x us (by simpa [flatRow] using hfl)) xs us h4
 have hle:Le X X2:=by
  refine⟨hstX,?_⟩;intro id;unfold Pair;cases hs:slot X.H id with
  |free=>trivial
  |dead=>
   have h1:id∉cap:=fun h=>hcapM id h (by unfold hget;rw[hs]);have h2:id∉frz:=fun h=>hfrz id h (by unfold hget;rw[hs]);have h3:id<nid∨nid+allocs.length≤id:=by
    rcases Nat.lt_or_ge id nid with h|h
    ·exact .inl h
    ·rcases Nat.lt_or_ge id (nid+allocs.length) with h2|h2
     ·have:=(hf (id-nid) (by omega)).1;rw[show nid+(id-nid)=id by omega,hs] at this;cases this
     ·exact .inr h2
   have:=B.out id h1 h2 h3;rw[e2H,this,hs];trivial
  |live r=>
   have hlv:hget X.H id≠none:=by rw[hget_live.2 hs];simp
   by_cases h1:id∈cap
   ·obtain⟨k,hk,he⟩:=List.getElem_of_mem h1;have he':id=cap.getD k 0:=by rw[gE,gQ hk];exact he.symm
    have hk':k<post.length:=by omega
    have hk2:k<pre.length:=by omega
    have hb:=B.caps k post[k] hk (gQ hk');have hpre:=hrows k pre[k] (gQ hk2);rw[←he'] at hb hpre;rw[hget_live,hs] at hpre;rw[e2H,hb];cases hp:post[k] with
    |none=>simp[slotOf]
    |some r0=>
     simp only[Option.map_some,slotOf];simp only[Slot.live.injEq] at hpre;rw[hpre];have hpk:post[k]? =some (some r0):=by rw[gQ hk',hp]
     refine⟨comp_ren (hshape k _ r0 (gQ hk2) hpk),?_⟩;rw[he',hpl2 _ _ (hρcap k hk)];exact h1pl k r0 hk hpk
   ·by_cases h2:id∈frz
    ·rw[e2H,B.frzs id h2];trivial
    ·have h3:id<nid∨nid+allocs.length≤id:=by
      have:=hrange id hlv;omega
     rw[e2H,B.out id h1 h2 h3,hs];refine⟨Comp.refl r,?_⟩;unfold Ctx.pl;rw[hρold id hlv h1]
 refine⟨?_,hle,?_⟩;rotate_left
 ·refine relD_pair hpair' val v ?_ (by rw[renD_id];exact hv);exact hflat.imp hstab1 (fun h=>h.1)
 have oldnew:∀i p m r0 q,hget X.H i≠none→i∉cap→X.ρ i=some p→hget X1.H m=some r0→X1.ρ m=some q→∀k,k∈p.bs→k∈q.bs→False:=by
  intro i p m r0 q hi hic hp hm hq k hkp hkq;rcases M1.fresh m q (by rw[hm];simp) hq k hkq with h|h
  ·have:=M.lts hi hp k hkp;have h':X.w.heap.size≤k:=h;omega
  ·exact hnotB i p hi hic hp k hkp h
 have hS1:∀k,X2.S k→(X1.S k):=by
  intro k hS;rw[e2S] at hS;rcases hS with(hS|⟨i,hi,hi2,l,hl1,hl2⟩)|⟨hS,_⟩
  ·exact M1.sub k (.inl hS)
  ·exact M1.sub k (.inr ⟨i,List.mem_append_right _ hi,hi2,l,hl1,hl2⟩)
  ·rw[e1S];exact hS
 refine⟨?_,?_,?_,Nat.le_trans M.size hsz,?_,?_,?_,?_,?_,?_,?_,?_,?_,?_,?_⟩
 ·rw[e2w,←e1w,M1.os];exact M.os
 ·rw[e2w,←e1w,M1.tape];exact M.tape
 ·rw[e2w,←e1w,M1.output];exact M.output
 ·
  intro i j p q hi hj hp hq k hkp hkq;cases hri:hget X2.H i with
  |none=>exact absurd hri hi
  |some ri=>
  cases hrj:hget X2.H j with
  |none=>exact absurd hrj hj
  |some rj=>
  rcases classes i ri hri with⟨h1,h2,_,h3⟩|⟨m,r0,h1,h2,_,h3,_⟩
  ·rw[h3] at hp;rcases classes j rj hrj with⟨g1,g2,_,g3⟩|⟨m',r1,g1,g2,_,g3,_⟩
   ·rw[g3] at hq;exact M.inj i j p q (by rw[h1];simp) (by rw[g1];simp) hp hq k hkp hkq
   ·rw[g3] at hq;exact(oldnew i p m' r1 q (by rw[h1];simp) h2 hp g1 hq k hkp hkq).elim
  ·rw[h3] at hp;rcases classes j rj hrj with⟨g1,g2,_,g3⟩|⟨m',r1,g1,g2,_,g3,_⟩
   ·rw[g3] at hq;exact(oldnew j q m r0 p (by rw[g1];simp) g2 hq h1 hp k hkq hkp).elim
   ·rw[g3] at hq;have:=M1.inj m m' p q (by rw[h1];simp) (by rw[g1];simp) hp hq k hkp hkq;rw[h2,g2,this]
 ·
  intro id r hr;rcases classes id r hr with⟨h,h1,h2,h3⟩|⟨m,r0,h1,h2,h3,h4,h5,_⟩
  ·rw[h3];refine relRow_le hle ?_ (M.rows id r h);intro l hl' k hk;exact hkeep _ (M.lts (by rw[h];simp) hl' k hk) (hnotB id l (by rw[h];simp) h1 hl' k hk)
  ·rw[h3,h4];refine hrow1 r0 _ (hflat.imp (fun h=>h) fun h=> ?_) (M1.rows m r0 h1);rcases h5 with h5|h5
   ·exact h.2.2 r0 h5
   ·exact h.2.1 r0 h5
 ·
  intro id p hid hp k hk hS;cases hr:hget X2.H id with
  |none=>exact hid hr
  |some r=>
  rcases classes id r hr with⟨h,h1,h2,h3⟩|⟨m,r0,h1,h2,h3,h4,h5,_⟩
  ·have hlv:hget X.H id≠none:=by rw[h];simp
   rw[h3] at hp;rw[e2S] at hS;rcases hS with(hS|⟨i,hi,hi2,l,hl1,hl2⟩)|⟨_,hS|hS⟩
   ·exact M.sep id p hlv hp k hk hS
   ·have:=M.inj _ _ _ _ hlv hi2 hp hl1 k hk hl2;exact h2 (this▸hi)
   ·have:=M.lts hlv hp k hk;omega
   ·exact hnotB id p hlv h1 hp k hk hS
  ·rw[h4] at hp;exact M1.sep m p (by rw[h1];simp) hp k hk (hS1 k hS)
 ·
  intro k hk;rw[e2w,←e1w];exact M1.stab k (hS1 k hk)
 ·
  intro k hk hB;rw[←M.keep k hk hB];refine hkeep k (Nat.lt_of_lt_of_le hk M.size) ?_;intro hb;obtain⟨i',l',g1,g2,g3,g4⟩:=hBiff _ hb;rcases M.fresh i' l' g2 g3 k g4 with h|h
  ·omega
  ·exact hB h
 ·
  intro id p hid hp k hk;cases hr:hget X2.H id with
  |none=>exact absurd hr hid
  |some r=>
  rcases classes id r hr with⟨h,h1,h2,h3⟩|⟨m,r0,h1,h2,h3,h4,h5,_⟩
  ·rw[h3] at hp;exact M.fresh id p (by rw[h];simp) hp k hk
  ·rw[h4] at hp;rcases M1.fresh m p (by rw[h1];simp) hp k hk with hb|hb
   ·exact .inl (Nat.le_trans M.size hb)
   ·obtain⟨i',l',g1,g2,g3,g4⟩:=hBiff _ hb;exact M.fresh i' l' g2 g3 k g4
 ·
  intro id hid hlv;cases hr:hget X2.H id with
  |none=>exact absurd hr hlv
  |some r=>
  rcases classes id r hr with⟨h,h1,h2,h3⟩|⟨m,r0,h1,h2,h3,h4,h5,h6⟩
  ·have:=M.old id hid (by rw[h];simp);rw[←this];unfold Ctx.pl;rw[h3]
  ·rcases h6 with⟨hm,h6⟩|h6
   ·rw[hpl2 _ _ h4];have e1:X1.pl m=X.pl (cap.getD m 0):=M1.old m hm (by rw[h1];simp);rw[e1,←h6];exact M.old id hid (by rw[h6];exact hcapL m hm)
   ·omega
 ·intro k hk;rw[e2S];exact .inl (.inl (M.sub k hk))
 ·intro k hk;rw[e2S] at hk;rcases hk with(hk|⟨i,hi,hi2,l,hl1,hl2⟩)|⟨_,hk|hk⟩
  ·exact M.sup k hk
  ·exact .inr (M.fresh i l hi2 hl1 k hl2)
  ·exact .inr (.inl (Nat.le_trans M.size hk))
  ·obtain⟨i',l',g1,g2,g3,g4⟩:=hBiff _ hk;exact .inr (M.fresh i' l' g2 g3 k g4)
 ·exact M.glob.le hle.st
 ·intro id r p hr hp;rcases classes id r hr with⟨h,h1,h2,h3⟩|⟨m,r0,h1,h2,h3,h4,h5,_⟩
  ·rw[h3] at hp;exact M.ok id r p h hp
  ·rw[h4] at hp;rw[h3];exact okLoc_ren (M1.ok m r0 p h1 hp)
end
theorem rowEq_all {rd:Nat→Option Row} {f:Nat→Nat}:∀{pre:List Row} {k0:Nat},(∀p∈rowEq rd f k0 pre,p)→∀k r,pre[k]? =some r→rd (f (k0+k))=some (renRow f r)
 | [],_,_,k,r,h=>by simp at h
 |r0::rs,k0,hp,0,r,h=>by
  simp only[List.getElem?_cons_zero,sI] at h;subst h;exact hp _ (by simp[rowEq])
 |r0::rs,k0,hp,k+1,r,h=>by
  simp only[List.getElem?_cons_succ] at h;have:=rowEq_all (k0:=k0+1) (fun p hm=>hp p (by simp only[rowEq,List.mem_cons];exact .inr hm)) k r h;rwa [show k0+(k+1)=k0+1+k by omega]
theorem shapeEq_all:∀{pre:List Row} {post:List (Option Row)} {qs:List Prop},shapeEq pre post=some qs→(∀q∈qs,q)→
  post.length=pre.length∧∀(k:Nat) (r r':Row),pre[k]? =some r→post[k]? =some (some r')→Comp r r'
 | [],[],_,_,_=>⟨rfl,fun k r r' h=>by simp at h⟩
 | [],_::_,_,h,_=>by simp[shapeEq] at h
 |_::_,[],_,h,_=>by simp[shapeEq] at h
 |r0::rs,none::ps,qs,h,hq=>by
  have h':shapeEq rs ps=some qs:=by cases r0<;>simpa [shapeEq] using h
  obtain⟨h1,h2⟩:=shapeEq_all h' hq;refine⟨by simp[h1],fun k r r' ha hb=> ?_⟩;cases k with
  |zero=>simp at hb
  |succ k=>exact h2 k r r' (by simpa using ha) (by simpa using hb)
 | .box t cs::rs,some (.box t' cs')::ps,qs,h,hq=>by
  have h':shapeEq rs ps=some qs:=by simpa [shapeEq] using h
  obtain⟨h1,h2⟩:=shapeEq_all h' hq;refine⟨by simp[h1],fun k r r' ha hb=> ?_⟩;cases k with
  |zero=>
   simp at ha hb;subst ha;subst hb;rfl
  |succ k=>exact h2 k r r' (by simpa using ha) (by simpa using hb)
 | .data e t xs::rs,some (.data e' t' ys)::ps,qs,h,hq=>by
  simp only[shapeEq] at h;split at h
  ·rename_i he;rw[Option.map_eq_some_iff] at h;obtain⟨qs',h',rfl⟩:=h;obtain⟨h1,h2⟩:=shapeEq_all h' (fun q hm=>hq q (List.mem_cons_of_mem _ hm));refine⟨by simp[h1],fun k r r' ha hb=> ?_⟩;cases k with
   |zero=>
    simp at ha hb;subst ha;subst hb;have e2:=hq _ List.mem_cons_self;obtain⟨_,rfl⟩:=he;show some _=some _;rw[e2]
   |succ k=>exact h2 k r r' (by simpa using ha) (by simpa using hb)
  ·cases h
 | .nest k xs hh::rs,some (.nest k' ys hh')::ps,qs,h,hq=>by
  simp only[shapeEq] at h;split at h
  ·rename_i he;rw[Option.map_eq_some_iff] at h;obtain⟨qs',h',rfl⟩:=h;obtain⟨h1,h2⟩:=shapeEq_all h' (fun q hm=>hq q (List.mem_cons_of_mem _ hm));refine⟨by simp[h1],fun k r r' ha hb=> ?_⟩;cases k with
   |zero=>
    simp at ha hb;subst ha;subst hb;have e2:=hq _ List.mem_cons_self;subst he;show some _=some _;rw[e2]
   |succ k=>exact h2 k r r' (by simpa using ha) (by simpa using hb)
  ·cases h
 | .box _ _::_,some (.data _ _ _)::_,_,h,_=>by simp[shapeEq] at h
 | .data _ _ _::_,some (.box _ _)::_,_,h,_=>by simp[shapeEq] at h
 | .box _ _::_,some (.nest _ _ _)::_,_,h,_=>by simp[shapeEq] at h
 | .nest _ _ _::_,some (.box _ _)::_,_,h,_=>by simp[shapeEq] at h
 | .data _ _ _::_,some (.nest _ _ _)::_,_,h,_=>by simp[shapeEq] at h
 | .nest _ _ _::_,some (.data _ _ _)::_,_,h,_=>by simp[shapeEq] at h
section
variable {P:Program} {b:Beg} {X:Ctx}
variable {nid:Nat} {sp:Sp} {o:Oper} {E:Eff} {rd:Nat→Option Row}
def StepW (P:Program) (b:Beg) (X:Ctx) (nid:Nat) (o:Oper) (a:Act) (E:Eff):Prop:=
 ∀(K:Act→World→Prop) (Q:Exit→Act→World→Prop),(∀X' v,Mem b X'→X'.H=setWrites (setAllocs X.H nid E.allocs) E.writes→Le X X'→RelD X' E.val v→K (a.put o.dst v) X'.w)→
  o.wp P a X.w K Q
theorem Step.wp {a:Act} (h:Step P b X nid o a.eval E):StepW P b X nid o a E:=by
 intro K Q hK;obtain⟨nx,v,X',h1,h2,h3,h4,h5,h6⟩:=h;unfold Oper.wp;rw[h1];rcases h2 with h2|⟨h2,h2'⟩
 ·rw[h2,Oper.upon_value];exact hK X' v h3 h4 h5 h6
 ·rw[h2,Oper.upon_skip,←h2'];exact hK X' v h3 h4 h5 h6
theorem exec_call {c:Call} {f:Operand} (ho:o.op= .call c) (hc:c.callee= .value f) {va:Operand→Value} {g:FuncId} {us:List Value} (hv:va f= .func (.func g) #[] us.toArray)
  {fn:Func} (hfn:P.funcs[g]? =some fn) (h1:(fn.name== "runtime.NumGoroutine")=false) (h2:fn.body.isNone=false) (w:World):
  (execOp va o).run P w= .ok (.enter g (c.args.toList.map va++us).toArray) w:=by
 have e:c.args.map va++us.toArray=(c.args.toList.map va++us).toArray:=by
  apply Array.ext';simp
 simp only[execOp,ho,resolve,hc,hv,Deferred.ofValue];rw[Sem.run_bind];simp only[Sem.run_pure,invoke,callFunc];have h1':fn.name≠ "runtime.NumGoroutine" :=by simpa using h1
 have h2':fn.body≠none:=fun e=>by rw[e] at h2;cases h2
 simp[hfn,h1',h2',e]
theorem op_call (M:Mem b X) {a:Act} {ev:Operand→D} (hev:∀x,RelD X (ev x) (a.eval x)) (hrd:∀id r,rd id=some r→hget X.H id=some r) {c:Call} {f:Operand} (ho:o.op= .call c) (hc:c.callee= .value f)
  (h:opEff P rd nid sp o ev=some E) (hob:∀p∈E.obl,p) (hf:Free X nid E.allocs.length) (hn:b.n≤nid):StepW P b X nid o a E:=by
 simp only[opEff,ho,hc] at h;have hfv:=hev f;split at h
 ·rename_i g caps he;split at h
  ·rename_i n _;unfold callEff at h;rw[he] at hfv;simp only[RelD] at hfv;obtain⟨us,hfu,hcaps⟩:=hfv;simp only at h;split at h
   ·rename_i hg;simp only[Bool.and_eq_true,decide_eq_true_eq] at hg;obtain⟨⟨⟨⟨⟨⟨⟨hgf,hl⟩,hnd⟩,hclosed⟩,hcla⟩,hcl⟩,hfrz⟩,hflat⟩:=hg;split at h
    ·rename_i ps qs hfit hsh;simp only[sI] at h;subst h;simp only[List.mem_cons,List.mem_append,forall_eq_or_imp] at hob;obtain⟨hcon,hob⟩:=hob;have hps:∀p∈ps,p:=fun p hp=>hob p (.inl (.inl hp));have hqs:∀p∈qs,p:=fun p hp=>hob p (.inl (.inr hp));have hre:=rowEq_all (fun p hp=>hob p (.inr hp));have hrows:∀(k:Nat) (r:Row),n.pre[k]? =some r→hget X.H (n.cap.getD k 0)=some (renRow (ren n.cap nid) r):=by
      intro k r hk;have h1:=hrd _ _ (hre k r hk);have hk':k<n.cap.length:=by
       rw[←hl];exact(List.getElem?_eq_some_iff.1 hk).1
      rwa [Nat.zero_add,ren_cap hk'] at h1
     obtain⟨hpl,hshape⟩:=shapeEq_all hsh hqs;have hnd':=nodupB_iff.1 hnd;have hcl':∀i∈n.cap,i∉n.lent:=by
      intro i hi;have:=List.all_eq_true.1 hcl i hi;simpa using this
     have hfrz':∀i∈n.frz,hget X.H i≠none:=by
      intro i hi;have:=List.all_eq_true.1 hfrz i hi;obtain⟨r,hr⟩:=Option.isSome_iff_exists.1 this;rw[hrd _ _ hr];simp
     have hflat':n.lent=[]∨(flatD n.val=true∧(∀r∈n.allocs,flatRow r=true)∧∀r,some r∈n.post→flatRow r=true):=by
      simp only[Bool.or_eq_true,Bool.and_eq_true,List.isEmpty_iff] at hflat;refine hflat.imp id fun h=>⟨h.1.1,fun r hr=>List.all_eq_true.1 h.1.2 r hr,fun r hr=> ?_⟩;have:=List.all_eq_true.1 h.2 _ hr;simpa using this
     obtain⟨⟨fn,hfn,hname,hbody⟩,hcon⟩:=hcon;subst hgf;intro K Q hK;unfold Oper.wp;rw[exec_call ho hc hfu hfn hname hbody,Oper.upon_enter];have hargs:RelDs X (c.args.toList.map ev++caps) (c.args.toList.map a.eval++us):=by
      rw[relDs_append];exact⟨_,_,rfl,relDs_map _ fun x _=>hev x,hcaps⟩
     have hargs':=fits_rel (nid:=nid) M hrd (n.lent++n.frz) hl hrows _ _ _ _ hfit hps hcla hargs;have hM:=mem_callee (nid:=nid) (frz:=n.frz) (lent:=n.lent) M hl hnd' hcl' hclosed hrows;have:=hcon X.w (capρ X n.cap) (softS X (n.lent++n.frz)) _ (by rw[hl];exact hM) hargs';refine Calls.mono this ?_;rintro e w' ⟨v,ρ',S',he',hM1,hv⟩
     subst he';simp only;have hf':Free X nid n.allocs.length:=by simpa using hf
     rw[hl] at hM1;obtain⟨M2,L2,hr2⟩:=mem_called (nid:=nid) M hl (hpl.trans hl) hnd' hcl' hrows hfrz' hshape hf' hn hflat' hM1 hv;exact hK _ v M2 rfl L2 hr2
    ·cases h
   ·cases h
  ·cases h
 ·cases h
theorem op_wp (M:Mem b X) {a:Act} {ev:Operand→D} (hev:∀x,RelD X (ev x) (a.eval x)) (hrd:∀id r,rd id=some r→hget X.H id=some r)
  (h:opEff P rd nid sp o ev=some E) (hob:∀p∈E.obl,p) (hf:Free X nid E.allocs.length) (hn:b.n≤nid):StepW P b X nid o a E:=by
 cases ho:o.op with
 |move x=>exact(op_move M hev (.inl ho) h).wp
 |assign x=>exact(op_move M hev (.inr ho) h).wp
 |pick c x y=>exact(op_pick M hev ho h).wp
 |alloc t=>exact(op_alloc M ho h hf hn).wp
 |box t x=>exact(op_box M hev ho h hf hn).wp
 |build t ps=>exact(op_build M hev ho h).wp
 |buildSlice t n ps=>exact(op_buildSlice M hev hrd ho h hf hn).wp
 |load t x=>exact(op_load M hev hrd ho h hob hf hn).wp
 |store t x y=>exact(op_store M hev hrd ho h hob).wp
 |nilCheck x=>exact(op_nilCheck M hev hrd ho h).wp
 |binOp op t x y t'=>exact(op_bin M hev ho h hob).wp
 |unOp op t x=>exact(op_un M hev ho h).wp
 |convert s t x=>exact(op_convert M hev ho h hob).wp
 |makeFunc f first caps=>cases f with
  |func f=>exact(op_makeFunc M hev ho h).wp
  |_=>simp[opEff,ho] at h
 |makeSlice t l c=>exact(op_makeSlice M hev hrd ho h hob hf hn).wp
 |slice t x lo hi mx=>exact(op_slice M hev hrd ho h hob).wp
 |fieldAddr t x f=>exact(op_field M hev hrd ho h).wp
 |indexAddr t x i=>exact(op_indexAddr M hev hrd ho h hob).wp
 |index t x i=>exact(op_index M hev ho h hob).wp
 |extract t i=>exact(op_extract M hev ho h).wp
 |call c=>cases hc:c.callee with
  |value f=>exact op_call M hev hrd ho hc h hob hf hn
  |builtin B=>exact(op_builtin M hev hrd ho hc h hob hf hn).wp
  |invoke _ _=>simp[opEff,ho,hc] at h
 |_=>simp[opEff,ho] at h
theorem evalD_rel (M:Mem b X) {tmps:List D} {a:Act} (hT:RelDs X tmps a.tmps.toList) (x:Operand):RelD X (evalD tmps x) (a.eval x):=by
 cases x with
 |tmp t=>
  simp only[evalD,Act.eval];cases hg:tmps[t]? with
  |none=>
   rw[gE,hg];simp only[Option.getD_none,RelD]
  |some d=>
   obtain⟨u,hu,hr⟩:=relDs_get hT hg;rw[gE,hg,Array.getD_eq_getD_getElem?,←Array.getElem?_toList,hu];exact hr
 |const v=>simp only[evalD,Act.eval,RelD]
 |global g=>
  simp only[evalD,Act.eval];split
  ·rename_i us hl;have hm:(g,us)∈gTab:=by
    generalize gTab=l at hl
    induction l with
    |nil=>simp at hl
    |cons p l ih=>
     obtain⟨g',us'⟩:=p;rw[List.lookup_cons] at hl;split at hl
     ·rename_i hb;simp only[sI] at hl;rw[eq_of_beq hb,hl];exact List.mem_cons_self
     ·exact List.mem_cons_of_mem _ (ih hl)
   obtain⟨h1,h2⟩:=M.glob _ hm;simp only[RelD];refine⟨_,us,rfl,relDs_v us,fun j u hj=>⟨_,rfl,h1,?_⟩⟩;rw[add_plain,Nat.zero_add];exact h2 j u hj
  ·simp only[RelD]
 |func f=>simp only[evalD,Act.eval,RelD];exact⟨[],rfl,by simp only[RelDs]⟩
theorem relDs_set:∀{ds:List D} {us:List Value} {i:Nat} {d:D} {u:Value},RelDs X ds us→RelD X d u→RelDs X (ds.set i d) (us.set i u)
 | [],us,i,d,u,h,_=>by simp only[RelDs] at h;subst h;simp[RelDs]
 |d0::ds,us,i,d,u,h,hd=>by
  simp only[RelDs] at h;obtain⟨u0,us',rfl,h1,h2⟩:=h;cases i with
  |zero=>simp only[List.set_cons_zero,RelDs];exact⟨_,_,rfl,hd,h2⟩
  |succ i=>simp only[List.set_cons_succ,RelDs];exact⟨_,_,rfl,h1,relDs_set h2 hd⟩
theorem putD_rel {tmps:List D} {a:Act} (hT:RelDs X tmps a.tmps.toList) (dst:Option Tmp) {d:D} {u:Value} (h:RelD X d u):RelDs X (putD tmps dst d) (a.put dst u).tmps.toList:=by
 cases dst with
 |none=>exact hT
 |some t=>
  simp only[putD,Act.put,Array.toList_setIfInBounds];exact relDs_set hT h
theorem put_defers (a:Act) (dst:Option Tmp) (u:Value):(a.put dst u).defers=a.defers:=by cases dst<;>rfl
theorem wantedD_rel {ops:Array Oper} {tmps:List D} {a:Act} (hT:RelDs X tmps a.tmps.toList) {t:Bool} (h:wantedD ops tmps o=some t):Region.wanted o (yielded ops a.tmps)=t:=by
 unfold wantedD at h;unfold Region.wanted;cases hg:o.guard with
 |none=>rw[hg] at h;simpa using h
 |some gw=>
  obtain⟨j,want⟩:=gw;rw[hg] at h;simp only at h;unfold yielded;cases hd:(ops[j]?).bind (·.dst) with
  |none=>rw[hd] at h;cases h
  |some t'=>
   rw[hd] at h;try simp only at h
   try simp only[Option.bind_some]
   cases hx:tmps[t']? with
   |none=>rw[hx] at h;cases h
   |some d=>
    rw[hx] at h;obtain⟨u,hu,hr⟩:=relDs_get hT hx;rw[Array.getElem?_toList] at hu;rw[hd];simp only[Option.bind_some,hu];split at h
    ·rename_i c heq;simp only[sI] at heq h;subst heq;subst h;simp only[RelD] at hr;subst hr;simp
    ·rename_i vs heq;simp only[sI] at heq h;subst heq;subst h;simp only[RelD] at hr;subst hr;simp
    ·cases h
theorem freeB_free {H:Heap} (hH:X.H=H) {nid n:Nat} (h:freeB H nid n=true):Free X nid n:=by
 intro j hj;unfold freeB at h;have:=List.all_eq_true.1 h j (List.mem_range.2 hj);simp only[Bool.and_eq_true,decide_eq_true_eq] at this;rw[hH];refine⟨?_,this.1⟩;have h2:=this.2;split at h2
 ·assumption
 ·cases h2
theorem effD_some {d:Dec} {ev:Operand→D} {rd:Nat→Option Row} {E:Eff} (h:effD P rd d ev=some E) (hps:∀p∈E.obl,p):
  ∃E0,opEff P rd d.nid d.sp d.o ev=some E0∧(∀p∈E0.obl,p)∧E.allocs=E0.allocs∧E.writes=E0.writes∧∀X' v,RelD X' E0.val v→RelD X' E.val v:=by
 unfold effD at h;split at h
 ·rename_i E0 h0;unfold fixE at h;split at h
  ·simp only[sI] at h;subst h;exact⟨E0,h0,hps,rfl,rfl,fun _ _ h=>h⟩
  ·split at h
   ·rename_i c _ _ b hv;simp only[sI] at h;subst h;have hb:b=c:=hps _ List.mem_cons_self;refine⟨E0,h0,fun p hp=>hps p (List.mem_cons_of_mem _ hp),rfl,rfl,fun X' v hr=> ?_⟩;rw[hv,hb] at hr;exact hr
   ·cases h
 ·cases h
theorem stepD_wp (M:Mem b X) {ops:Array Oper} {d:Dec} {s s':St} {ps:List Prop} {a:Act} (hT:RelDs X s.tmps a.tmps.toList) (hH:X.H=s.heap) (hn:b.n≤d.nid) (h:stepD P ops d s=some (s',ps)) (hps:∀p∈ps,p)
  {i:Nat} (hi:ops[i]? =some d.o) {K:Act→World→Prop} {Q:Exit→Act→World→Prop}
  (hK:∀X' a',Mem b X'→RelDs X' s'.tmps a'.tmps.toList→X'.H=s'.heap→a'.defers=a.defers→Le X X'→K a' X'.w):wpOp P ops Q i K a X.w:=by
 unfold wpOp;simp only[hi];unfold stepD at h;split at h
 ·rename_i hw;rw[wantedD_rel hT hw];simp only[if_true];split at h
  ·rename_i E hE;split at h
   ·rename_i hg;simp only[Bool.and_eq_true,decide_eq_true_eq] at hg;simp only[sI,Prod.mk.injEq] at h;obtain⟨rfl,rfl⟩:=h;obtain⟨E0,hE0,f1,f2,f3,f4⟩:=effD_some hE hps;rw[f2,f3] at hK;rw[f2] at hg;refine .inl (op_wp M (evalD_rel M hT) (fun id r hr=>by rw[hH];exact rdOf_some hr) hE0 f1 (freeB_free hH hg.1.2) hn K Q ?_);intro X' v M' hX' L' hv;exact hK X' _ M' (putD_rel (L'.ds hT) _ (f4 X' v hv)) (by rw[hX',hH]) (put_defers _ _ _) L'
   ·cases h
  ·cases h
 ·rename_i hw;rw[wantedD_rel hT hw];simp only[sI,Prod.mk.injEq] at h;obtain⟨rfl,rfl⟩:=h;simp only[Bool.false_eq_true,if_false];exact hK X _ M (putD_rel hT _ (by simp only[RelD])) hH (put_defers _ _ _) (Le.refl X)
 ·cases h
theorem runD_wp {ops:Array Oper} {Q:Exit→Act→World→Prop}:∀(ds:List Dec) (is:List Nat) {X:Ctx} {s s':St} {ps:List Prop} {a:Act},Mem b X→RelDs X s.tmps a.tmps.toList→X.H=s.heap→(∀d∈ds,b.n≤d.nid)→
  runD P ops ds s=some (s',ps)→(∀p∈ps,p)→is.map (fun i=>ops[i]?)=ds.map (fun d=>some d.o)→
  (∀X' a',Mem b X'→RelDs X' s'.tmps a'.tmps.toList→X'.H=s'.heap→a'.defers=a.defers→Le X X'→Q .normal a' X'.w)→wpOps P ops Q is a X.w
 | [],is,X,s,s',ps,a,M,hT,hH,_,h,_,hi,hQ=>by
  simp only[List.map_nil,List.map_eq_nil_iff] at hi;subst hi;simp only[runD,sI,Prod.mk.injEq] at h;obtain⟨rfl,rfl⟩:=h;exact hQ X a M hT hH rfl (Le.refl X)
 |d::ds,is,X,s,s',ps,a,M,hT,hH,hn,h,hps,hi,hQ=>by
  cases is with
  |nil=>simp at hi
  |cons i is=>
  simp only[List.map_cons,List.cons.injEq] at hi;simp only[runD] at h;split at h
  ·rename_i s1 p1 hs;split at h
   ·rename_i s2 p2 hr;simp only[sI,Prod.mk.injEq] at h;obtain⟨rfl,rfl⟩:=h;rw[wpOps_cons];refine stepD_wp M hT hH (hn d List.mem_cons_self) hs (fun p hp=>hps p (List.mem_append_left _ hp)) hi.1 ?_;intro X' a' M' hT' hH' hd' L';refine runD_wp ds is M' hT' hH' (fun d hd=>hn d (List.mem_cons_of_mem _ hd)) hr (fun p hp=>hps p (List.mem_append_right _ hp)) hi.2 ?_;intro X'' a'' M'' hT'' hH'' hd'' L'';exact hQ X'' a'' M'' hT'' hH'' (hd''.trans hd') (L'.trans L'')
   ·cases h
  ·cases h
end
end Go.Proofs.YtnakmganodkliaaDoorAm
