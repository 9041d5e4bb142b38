/- What refute.Prove may tell, for every problem (claim RefuteProves): the logic, the contracts and the plain laws (part 10) -/
import Derived.Test.YtnakmganodkliaaDoorPri
set_option linter.unusedVariables false
set_option linter.unusedSimpArgs false
namespace Go.Proofs.YtnakmganodkliaaDoorAm
open Go
def satB (G:List (Int×Int)) (f:List Int):Bool:=G.all fun x=>f.getD x.1.toNat (-1)==x.2
theorem diff_mem:∀(ws acc:List (List Int)),∀w,(w∈acc∨w∈ws)→w∈diffF acc ws
 | [],acc,w,h=>h.resolve_right (by simp)
 |v::ws,acc,w,h=>by
  simp only[diffF];refine diff_mem ws _ w ?_;by_cases e:w∈ws
  ·exact .inr e
  ·refine .inl ?_;split
   ·rename_i ha;rcases h with h|h
    ·exact h
    ·rcases List.mem_cons.1 h with h|h
     ·rw[List.any_eq_true] at ha;obtain⟨u,hu,hd⟩:=ha;rw[h,←of_decide_eq_true hd];exact hu
     ·exact absurd h e
   ·rcases h with h|h
    ·exact List.mem_append_left _ h
    ·rcases List.mem_cons.1 h with h|h
     ·rw[h];exact List.mem_append_right _ List.mem_cons_self
     ·exact absurd h e
theorem fst_le {g:Gr} (hc:checkF g=0) {s:Slt} (hs:s∈slotsF g) {k:Nat} {z:Int} (hz:s.2.2[k]? =some z):fstC s≤z:=by
 have hw:0<g.w:=by have:=side_iff.1 (chk0.1 hc).2.1;omega
 obtain⟨i,i0,e1⟩:=slot_cells hc hs;obtain⟨hk,e⟩:=List.getElem?_eq_some_iff.1 hz;have hfi:fstC s=i:=by
  unfold fstC;rw[e1];rfl
 have e4:runOn g (dirI s.2.1) i=s.2.2:=e1.symm;have hgz:(runOn g (dirI s.2.1) i).getD k 0=z:=by rw[e4,gE,hz];rfl
 rw[hfi];cases hd:s.2.1 with
 |false=>
  rw[hd] at e4 hgz;have:=(across_at (g:=g) hw (i:=i) k (by rw[show runOn g 0 i=s.2.2 from e4];exact hk)).1;have h2:(runOn g 0 i).getD k 0=z:=hgz;omega
 |true=>
  rw[hd] at e4 hgz;have:=down_at (g:=g) (i:=i) k (by rw[show runOn g 1 i=s.2.2 from e4];exact hk);have h2:(runOn g 1 i).getD k 0=z:=hgz;have h3:0≤(k:Int)*g.w:=Int.mul_nonneg (by omega) (by omega);omega
theorem pick_all {p:Pr} (hc:checkP p=0) {B:List (List (Int×Int))} {R:List Nat} (C:Clo p B R) {c i:Nat} (hdec:∀j,j<c→∀a b,bitAt R j a→bitAt R j b→a=b) (hi:(∃s∈slotsF p.g,∃k:Nat,s.2.2[k]? =some (c:Int))→bitAt R c i):
  ∃(P Q:List Slt) (wX:List Int) (pw:Slt→List Int),slotsF p.g=P++Q∧(∀s∈P,fstC s≤(c:Int))∧(∀s∈Q,(c:Int)<fstC s)∧∀s∈slotsF p.g,Pick p R (c:Int) (i:Int) wX s (pw s):=by
 obtain⟨P,Q,e,hP,hQ⟩:=slots_split (g:=p.g) (c:Int) (p.g.h*p.g.w).toNat 0 0 (by omega);have es:slotsF p.g=P++Q:=by unfold slotsF;rw[if_pos (checkP_zero hc).1,e]
 obtain⟨wX,hw⟩:=picks hc C hi;obtain⟨pw,hpw⟩:=Classical.axiomOfChoice (r:=fun(s:Slt) (w:List Int)=>s∈slotsF p.g→Pick p R (c:Int) (i:Int) wX s w) (fun s=>by
  by_cases hs:s∈slotsF p.g
  ·obtain⟨w,h⟩:=hw s hs;exact⟨w,fun _=>h⟩
  ·exact⟨[],fun h=>absurd h hs⟩)
 exact⟨P,Q,wX,pw,es,hP,hQ,hpw⟩
theorem grown_start (p:Pr) (pw:Slt→List Int):Grown p.M pw [] (List.replicate p.M.length (-1)):=by
 refine⟨List.length_replicate,fun s hs=>by simp at hs,fun j h=> ?_⟩;rw[gE,List.getElem?_replicate] at h;split at h<;>simp at h
theorem supp {p:Pr} (hc:checkP p=0) {B:List (List (Int×Int))} {R:List Nat} (C:Clo p B R) {c i:Nat} (hdec:∀j,j<c→∀a b,bitAt R j a→bitAt R j b→a=b) (hi:bitAt R c i) {G:List (Int×Int)}
  (hG:∀x∈G,0≤x.1∧seatedB (slotsF p.g) x.1.toNat=true∧((x.1=c∧x.2=i)∨(x.1<c∧∀k:Nat,bitAt R x.1.toNat k→x.2=k))):1≤cntS p.M (diffF [] p.W) (satB G) (slotsF p.g) (List.replicate p.M.length (-1)):=by
 obtain⟨P,Q,wX,pw,es,hP,hQ,hpw⟩:=pick_all hc C hdec (fun _=>hi);have hPs:∀s∈P,s∈slotsF p.g:=fun s hs=>by rw[es];exact List.mem_append_left _ hs
 have agree:=picks_agree hc hdec (P:=P) (fun s hs=>⟨hPs s hs,hP s hs⟩) (fun s hs=>hpw s (hPs s hs));have:=grow hc (V:=diffF [] p.W) (Q:=Q) (C.lo.trans m0_leq) hPs (fun s hs=>diff_mem _ _ _ (.inr (hpw s (hPs s hs)).inW)) (fun s hs=>(hpw s (hPs s hs)).fit) agree (G:=satB G) (fun f hf=>by
  unfold satB;rw[List.all_eq_true];intro x hx;obtain⟨x0,hs,hx2⟩:=hG x hx;unfold seatedB at hs;rw[List.any_eq_true] at hs;obtain⟨s,hs,h⟩:=hs;rw[List.any_eq_true] at h;obtain⟨z,hz,h⟩:=h;rw[beq_iff_eq] at h;have z0:=(cells_in hc hs z hz).1;have ez:z=x.1:=by omega
  subst ez;obtain⟨k,hk,e⟩:=List.mem_iff_getElem.1 hz;have hkz:s.2.2[k]? =some x.1:=by rw[gQ hk,e]
  have hfl:=fst_le (checkP_zero hc).1 hs hkz;have hsP:s∈P:=by
   have:=hs;rw[es] at this;rcases List.mem_append.1 this with h|h
   ·exact h
   ·have:=hQ s h;omega
  rw[beq_iff_eq,hf.has s hsP k x.1 hkz];rcases hx2 with⟨h1,h2⟩|⟨h1,h2⟩
  ·rw[h2];exact(hpw s hs).at_c k (by rw[hkz,h1])
  ·obtain⟨a,a1,a2⟩:=fit_bit (hpw s hs).fit hkz;rw[a1,h2 a a2]) P [] rfl (List.replicate p.M.length (-1)) (grown_start p pw)
 rw[es];exact this
theorem loop_keeps {rec:List Int→List (List Int)×Int→List (List Int)×Int} {M:List Nat} {C f:List Int} (h:∀g q,q.1≠ []→(rec g q).1≠ []) (V:List (List Int)) (q:List (List Int)×Int) (hq:q.1≠ []):(loopD rec M C f V q).1≠ []:=
 loop_ind (I:=fun q=>q.1≠ []) V (fun w _ g q _ _ hI=>h g q hI) q hq
theorem down_keeps (M:List Nat) (V:List (List Int)):∀(ss:List Slt) (f:List Int) (q:List (List Int)×Int),q.1≠ []→(downF M V ss f q).1≠ []
 | [],f,q,h=>by simp[downF]
 |s::ss,f,q,h=>by
  simp only[downF];exact loop_keeps (down_keeps M V ss) V _ h
theorem loop_up {rec:List Int→List (List Int)×Int→List (List Int)×Int} {M:List Nat} {C f:List Int} (hup:∀g q,q.2≤(rec g q).2):∀(V:List (List Int)) (q:List (List Int)×Int),q.2≤(loopD rec M C f V q).2
 | [],q=>Int.le_refl _
 |v::vs,q=>by
  simp only[loopD];split
  ·refine Int.le_trans ?_ (loop_up hup vs _);split
   ·exact hup _ _
   ·exact Int.le_refl _
  ·exact Int.le_refl _
theorem loop_gets {rec:List Int→List (List Int)×Int→List (List Int)×Int} {M:List Nat} {C f g w:List Int} (hkeep:∀g q,q.1≠ []→(rec g q).1≠ []) (hup:∀g q,q.2≤(rec g q).2) (he:wlayF M f C w f=some g) (hrec:∀q,(rec g q).2≤4000→(rec g q).1≠ []):∀(V:List (List Int)),w∈V→∀(q:List (List Int)×Int),(loopD rec M C f V q).2≤4000→(loopD rec M C f V q).1≠ []
 | [],h,_,_=>by simp at h
 |v::vs,h,q,h4=>by
  simp only[loopD] at h4⊢;split at h4
  ·rename_i hq;rw[if_pos hq];by_cases e:w=v
   ·subst e;rw[he] at h4⊢;simp only at h4⊢;have:=loop_up (M:=M) (C:=C) (f:=f) hup vs (rec g q);exact loop_keeps hkeep vs _ (hrec q (by omega))
   ·rcases List.mem_cons.1 h with h|h
    ·exact absurd h e
    ·exact loop_gets hkeep hup he hrec vs h _ h4
  ·rename_i hq;exact absurd h4 hq
theorem grow_step {p:Pr} (hc:checkP p=0) {R:List Nat} {pw:Slt→List Int} {P D:List Slt} {s:Slt} {f:List Int} (hR:Leq R p.M) (hP:∀s∈P,s∈slotsF p.g) (hfit:∀s∈P,fitL R s.2.2 (pw s)=true)
  (agree:∀s∈P,∀t∈P,∀(k k':Nat) (z:Int),s.2.2[k]? =some z→t.2.2[k']? =some z→(pw s).getD k 0=(pw t).getD k' 0) (hsP:s∈P) (hDP:∀t∈D,t∈P) (hf:Grown p.M pw D f):∃g,wlayF p.M f s.2.2 (pw s) f=some g∧Grown p.M pw (D++[s]) g:=by
 have hci:=cells_in hc (hP s hsP);obtain⟨f1,f2⟩:=(fit_iff R s.2.2 (pw s)).1 (hfit s hsP);have hlen:=hf.len;obtain⟨g,hg⟩:∃g,wlayF p.M f s.2.2 (pw s) f=some g:=wlay_ok f1 fun k z hz=>by
  obtain⟨a,b,d⟩:=has_bit.1 (f2 k z hz);refine⟨has_bit.2 ⟨a,b,hR _ _ d⟩,fun h0=> ?_⟩;have hin:=(hci z (List.mem_of_getElem? hz)).2;rw[←hlen] at hin;rw[getD_eqd hin 0 (-1)] at h0⊢;obtain⟨t,ht,k2,z2,e1,e2⟩:=hf.only _ h0;have z20:=(cells_in hc (hP t (hDP t ht)) z2 (List.mem_of_getElem? e1)).1;have z0:=(hci z (List.mem_of_getElem? hz)).1;have ez:z2=z:=by omega
  subst ez;rw[hf.has t ht k2 z2 e1];exact agree t (hDP t ht) s hsP k2 k z2 e1 hz
 obtain⟨g1,g2,g3,g4,g5⟩:=laid_some hg (once_nodup (once_slot (checkP_zero hc).1 (hP s hsP))) (fun z hz=>by rw[hlen];exact(hci z hz).2);have gat:∀(k:Nat) (z:Int),s.2.2[k]? =some z→g.getD z.toNat (-1)=(pw s).getD k 0:=fun k z hz=>by
  have:(s.2.2.map fun c=>g.getD c.toNat (-1)).getD k 0=(pw s).getD k 0:=by rw[g4]
  rw[gE,List.getElem?_map,hz] at this;exact this
 have hg':Grown p.M pw (D++[s]) g:=by
  refine⟨by rw[g2,hlen],fun t ht k z hz=> ?_,fun j hj=> ?_⟩
  ·rcases List.mem_append.1 ht with ht|ht
   ·by_cases hm:z.toNat∈s.2.2.map Int.toNat
    ·obtain⟨z2,hz2,e⟩:=List.mem_map.1 hm;have z20:=(hci z2 hz2).1;have z0:=(cells_in hc (hP t (hDP t ht)) z (List.mem_of_getElem? hz)).1;have ez:z2=z:=by omega
     subst ez;obtain⟨k2,hk2,e2⟩:=List.mem_iff_getElem.1 hz2;have hk3:s.2.2[k2]? =some z2:=by rw[gQ hk2,e2]
     rw[gat k2 z2 hk3];exact agree s hsP t (hDP t ht) k2 k z2 hk3 hz
    ·rw[g3 _ hm];exact hf.has t ht k z hz
   ·rw[List.mem_singleton] at ht;subst ht;exact gat k z hz
  ·by_cases hm:j∈s.2.2.map Int.toNat
   ·obtain⟨z2,hz2,e⟩:=List.mem_map.1 hm;obtain⟨k2,hk2,e2⟩:=List.mem_iff_getElem.1 hz2;exact⟨s,List.mem_append_right _ List.mem_cons_self,k2,z2,by rw[gQ hk2,e2],e⟩
   ·rw[g3 _ hm] at hj;obtain⟨t,ht,r⟩:=hf.only j hj;exact⟨t,List.mem_append_left _ ht,r⟩
 exact⟨g,hg,hg'⟩
theorem grow_leaf {p:Pr} (hc:checkP p=0) {V:List (List Int)} {R:List Nat} {pw:Slt→List Int} {P:List Slt} (hR:Leq R p.M) (hP:∀s∈P,s∈slotsF p.g) (hV:∀s∈P,pw s∈V) (hfit:∀s∈P,fitL R s.2.2 (pw s)=true)
  (agree:∀s∈P,∀t∈P,∀(k k':Nat) (z:Int),s.2.2[k]? =some z→t.2.2[k']? =some z→(pw s).getD k 0=(pw t).getD k' 0):∀(P' D:List Slt),D++P'=P→∀f,Grown p.M pw D f→∀q,(downF p.M V P' f q).2≤4000→(downF p.M V P' f q).1≠ []
 | [],D,hD,f,hf,q,_=>by simp[downF]
 |s::P',D,hD,f,hf,q,h4=>by
  have hsP:s∈P:=by rw[←hD];exact List.mem_append_right _ List.mem_cons_self
  obtain⟨g,hg,hg'⟩:=grow_step hc hR hP hfit agree hsP (fun t ht=>by rw[←hD];exact List.mem_append_left _ ht) hf;simp only[downF] at h4⊢;exact loop_gets (down_keeps p.M V P') (fun g q=>Int.le_of_lt (down_full p.M V P' g q).1) hg (fun q hq=>grow_leaf hc hR hP hV hfit agree P' (D++[s]) (by rw[←hD,List.append_assoc];rfl) g hg' q hq) V (hV s hsP) _ h4
theorem found_told {p:Pr} (hc:checkP p=0) {B:List (List (Int×Int))} {R:List Nat} (C:Clo p B R) (hdec:∀j a b,bitAt R j a→bitAt R j b→a=b) (h4:(smallF p).2≤4000):(smallF p).1≠ []:=by
 have hno:¬∃s∈slotsF p.g,∃k:Nat,s.2.2[k]? =some (p.M.length:Int):=by
  rintro⟨s,hs,k,hk⟩
  have:=(cells_in hc hs _ (List.mem_of_getElem? hk)).2;omega
 obtain⟨P,Q,wX,pw,es,hP,hQ,hpw⟩:=pick_all hc C (c:=p.M.length) (i:=0) (fun j _=>hdec j) (fun h=>absurd h hno);have hle:∀s∈slotsF p.g,fstC s≤(p.M.length:Int):=fun s hs=>by
  by_cases hn:s.2.2=[]
  ·unfold fstC;rw[hn];simp
  ·have hk:0<s.2.2.length:=List.length_pos_iff.2 hn;have hm:s.2.2[0]? =some s.2.2[0]:=gQ hk;have h1:=fst_le (checkP_zero hc).1 hs hm;have h2:=cells_in hc hs _ (List.mem_of_getElem? hm);omega
 have hPs:∀s∈slotsF p.g,s∈slotsF p.g:=fun s hs=>hs;have agree:=picks_agree hc (c:=p.M.length) (i:=0) (fun j _=>hdec j) (P:=slotsF p.g) (fun s hs=>⟨hs,hle s hs⟩) hpw;exact grow_leaf hc (V:=diffF [] p.W) (C.lo.trans m0_leq) hPs (fun s hs=>diff_mem _ _ _ (.inr (hpw s hs).inW)) (fun s hs=>(hpw s hs).fit) agree (slotsF p.g) [] rfl _ (grown_start p pw) _ h4
theorem few_bits {m:Nat} (hm:m<W64) (h:manyB m=false) {a b:Nat} (ha:m.testBit a=true) (hb:m.testBit b=true):a=b:=by
 have h0:m≠0:=by rintro rfl;simp at ha
 obtain⟨t,_,_,hl⟩:=list_step h0 hm;unfold manyB at h;have e:m&&&(m-1)=0:=by simpa using h
 rw[e,list_zero] at hl;have ia:=mem_list.2 (has_nat.2 ⟨bit_64 hm ha,ha⟩);have ib:=mem_list.2 (has_nat.2 ⟨bit_64 hm hb,hb⟩);rw[hl,List.mem_singleton] at ia ib;omega
theorem many_list {m:Nat} (hm:m<W64) (h:manyB m=true):2≤(listN m).length:=by
 obtain⟨t,_,_,hl⟩:=list_step (many_ne h) hm;unfold manyB at h;have e:m&&&(m-1)≠0:=by simpa using h
 obtain⟨t',_,_,hl'⟩:=list_step e (and_lt hm);rw[hl,hl'];simp
theorem list_nodup (m:Nat):(listN m).Nodup:=by
 have low:∀(f k:Nat),∀z∈lstF f k m,(k:Int)≤z:=by
  intro f;induction f with
  |zero=>intro k z h;simp[lstF] at h
  |succ f ih=>
   intro k z h;simp only[lstF] at h;rcases List.mem_append.1 h with h|h
   ·split at h
    ·rw[List.mem_singleton] at h;omega
    ·simp at h
   ·have:=ih (k+1) z h;omega
 have key:∀(f k:Nat),(lstF f k m).Nodup:=by
  intro f;induction f with
  |zero=>intro k;simp[lstF]
  |succ f ih=>
   intro k;simp only[lstF];split
   ·rw[List.singleton_append,List.nodup_cons];refine⟨fun h=> ?_,ih (k+1)⟩;have:=low f (k+1) _ h;omega
   ·rw[List.nil_append];exact ih (k+1)
 exact key 64 0
noncomputable def plc (p:Pr) (G:List (Int×Int)):Nat:=cntS p.M (diffF [] p.W) (satB G) (slotsF p.g) (List.replicate p.M.length (-1))
def sumZ (f:Int→Nat):List Int→Nat
 | []=>0
 |z::zs=>f z+sumZ f zs
theorem plc_kids (p:Pr) (fx:List (Int×Int)) (c:Int) (zs:List Int) (hn:zs.Nodup):sumZ (fun z=>plc p (fx++[(c,z)])) zs≤plc p fx:=by
 have sat1:∀z f,satB (fx++[(c,z)]) f=(satB fx f&&f.getD c.toNat (-1)==z):=fun z f=>by
  unfold satB;rw[List.all_append];simp
 have key:∀(zs:List Int),zs.Nodup→sumZ (fun z=>plc p (fx++[(c,z)])) zs≤cntS p.M (diffF [] p.W) (fun f=>satB fx f&&zs.contains (f.getD c.toNat (-1))) (slotsF p.g) (List.replicate p.M.length (-1)):=by
  intro zs;induction zs with
  |nil=>intro _;exact Nat.zero_le _
  |cons z zs ih=>
   intro hn;rw[List.nodup_cons] at hn;have h1:=ih hn.2;have h2:=cnt_two p.M (diffF [] p.W) (G1:=satB (fx++[(c,z)])) (G2:=fun f=>satB fx f&&zs.contains (f.getD c.toNat (-1))) (H:=fun f=>satB fx f&&(z::zs).contains (f.getD c.toNat (-1))) (fun f h=>by
    rw[sat1,Bool.and_eq_true,beq_iff_eq] at h;simp only[Bool.and_eq_true,List.contains_cons,Bool.or_eq_true,beq_iff_eq];exact⟨h.1,.inl h.2⟩) (fun f h=>by
    simp only[Bool.and_eq_true,List.contains_cons,Bool.or_eq_true,beq_iff_eq] at h⊢;exact⟨h.1,.inr h.2⟩) (fun f a b=>by
    rw[sat1,Bool.and_eq_true,beq_iff_eq] at a;simp only[Bool.and_eq_true,List.contains_iff_mem] at b;rw[a.2] at b;exact hn.1 b.2) (slotsF p.g) (List.replicate p.M.length (-1))
   simp only[sumZ];unfold plc at h1⊢;omega
 exact Nat.le_trans (key zs hn) (cnt_mono p.M _ (fun f h=>by simp only[Bool.and_eq_true] at h;exact h.1) _ _)
theorem given_app:∀(a b:List (Int×Int)) (m:List Nat),givenF (a++b) m=givenF b (givenF a m)
 | [],_,_=>rfl
 |x::a,b,m=>by
  simp only[List.cons_append,givenF];exact given_app a b _
def Decd (p:Pr) (F:List (List (Int×Int))) (fx:List (Int×Int)):Prop:=∀R,Clo p F R→Leq R (givenF fx p.M)→∀x∈fx,∀j:Nat,(j:Int)≤x.1→∀a b,bitAt R j a→bitAt R j b→a=b
structure Few (a:Int) (r:Int×RunS):Prop where
 how:r.1≠2
 seen:r.2.1≤a
theorem kids_few {p:Pr} (hc:checkP p=0) (hM:Smalls p.M) {rec:List (Int×Int)→RunS→Int×RunS} {fx:List (Int×Int)} {F0:List (List (Int×Int))} {c:Nat} (hfx:fx.any (oddP (seatsF p.g).1 (seatsF p.g).2)=false)
  (hcs:seatedB (slotsF p.g) c=true) (hl:∀fx s,Good p s.2.1→fx.any (oddP (seatsF p.g).1 (seatsF p.g).2)=false→Left p fx s (rec fx s)) {b:Int}
  (h:∀(z:Int) (s:RunS),0≤z→z<64→b≤s.1→Good p s.2.1→(∀l∈F0,l∈s.2.1)→1≤plc p (fx++[((c:Int),z)])→s.1+2*(plc p (fx++[((c:Int),z)]):Nat)≤66001→Few (s.1+2*(plc p (fx++[((c:Int),z)]):Nat)-1) (rec (fx++[((c:Int),z)]) s)) (hup:∀fx s,s.1< (rec fx s).2.1):
  ∀(zs:List Int) (s:RunS),b≤s.1→Good p s.2.1→(∀l∈F0,l∈s.2.1)→(∀z∈zs,0≤z∧z<64∧1≤plc p (fx++[((c:Int),z)]))→s.1+2*(sumZ (fun z=>plc p (fx++[((c:Int),z)])) zs:Nat)-zs.length+1≤66001→Few (s.1+2*(sumZ (fun z=>plc p (fx++[((c:Int),z)])) zs:Nat)-zs.length) (kidsF rec fx c zs s)
 | [],s,hb,h1,h2,h3,h4=>by
  simp only[kidsF,sumZ,List.length_nil];exact⟨by simp,by simp only;omega⟩
 |z::zs,s,hb,h1,h2,h3,h4=>by
  obtain⟨z0,z1,zp⟩:=h3 z List.mem_cons_self;have hrest:(zs.length:Int)≤2*(sumZ (fun z=>plc p (fx++[((c:Int),z)])) zs:Nat):=by
   have:∀(l:List Int),(∀z∈l,1≤plc p (fx++[((c:Int),z)]))→l.length≤sumZ (fun z=>plc p (fx++[((c:Int),z)])) l:=by
    intro l;induction l with
    |nil=>intro _;exact Nat.le_refl _
    |cons y l ih=>
     intro hy;have a:=hy y List.mem_cons_self;have b:=ih fun z hz=>hy z (List.mem_cons_of_mem _ hz);simp only[sumZ,List.length_cons];omega
   have:=this zs fun z hz=>(h3 z (List.mem_cons_of_mem _ hz)).2.2;omega
  simp only[sumZ,List.length_cons] at h4⊢;have hfx':(fx++[((c:Int),z)]).any (oddP (seatsF p.g).1 (seatsF p.g).2)=false:=by
   rw[List.any_append,hfx,Bool.false_or,List.any_cons,List.any_nil,Bool.or_false];exact pair_seats hc (by omega) (by rw[Int.toNat_natCast];exact hcs) ⟨z0,z1⟩
  have q:=h z s z0 z1 hb h1 h2 zp (by omega);have l:=hl _ s h1 hfx';have hu:=hup (fx++[((c:Int),z)]) s;have qs:=q.seen;simp only[kidsF];split
  ·have k:=kids_few hc hM hfx hcs hl h hup zs (rec (fx++[((c:Int),z)]) s).2 (by omega) l.good (fun y hy=>l.old y (h2 y hy)) (fun y hy=>h3 y (List.mem_cons_of_mem _ hy)) (by omega);have ks:=k.seen;exact⟨k.how,by omega⟩
  ·exact⟨q.how,by omega⟩
theorem run_few {p:Pr} (hc:checkP p=0) (hM:Smalls p.M):∀(n:Nat) (fx:List (Int×Int)) (s:RunS),66000≤n+s.1→Good p s.2.1→fx.any (oddP (seatsF p.g).1 (seatsF p.g).2)=false→Decd p s.2.1 fx→1≤plc p fx→s.1+2*(plc p fx:Nat)≤66001→Few (s.1+2*(plc p fx:Nat)-1) (runF p n fx s)
 |0,fx,s,hn,_,_,_,h1,h2=>by omega
 |n+1,fx,s,hn,hG,ho,hD,h1,h2=>by
  simp only[runF,runB];split
  ·omega
  ·split
   ·rename_i hok;split
    ·exact⟨by simp,by simp only;omega⟩
    ·rename_i hf;obtain⟨C,L⟩:=good_clo hc hM hG fx hok;rcases findU_at (spreadG p fx s.2.1).1 0 (by omega) with⟨e,_⟩|⟨j,e,hj,hm,hlow⟩
     ·omega
     ·rw[Int.zero_add] at e;rw[e,Int.toNat_natCast];have hsm:∀k,(spreadG p fx s.2.1).1.getD k 0<W64:=fun k=>(spread_small hc s.2.1 ((givenF fx p.M).sum+1) (givenF fx p.M) (given_len _ _) (given_small fx hM)).at k;have hseat:=clo_seated C (many_ne hm);have hdec:∀i,i<j→∀a b,bitAt (spreadG p fx s.2.1).1 i a→bitAt (spreadG p fx s.2.1).1 i b→a=b:=fun i hi a b ha hb=>few_bits (hsm i) (hlow i hi) ha hb;have hfs:=seats_pair hc ho;have hlt:∀x∈fx,x.1<j:=fun x hx=>by
       rcases Int.lt_or_le x.1 j with h|h
       ·exact h
       ·exfalso;have hd:=hD _ C L x hx j h;have h2:=many_list (hsm j) hm;match hz:listN ((spreadG p fx s.2.1).1.getD j 0),h2,list_nodup ((spreadG p fx s.2.1).1.getD j 0) with
        | [],h2,_=>simp at h2
        | [_],h2,_=>simp at h2
        |a::b::_,_,hnd=>
         have ia:a∈listN ((spreadG p fx s.2.1).1.getD j 0):=by rw[hz];exact List.mem_cons_self
         have ib:b∈listN ((spreadG p fx s.2.1).1.getD j 0):=by rw[hz];exact List.mem_cons_of_mem _ List.mem_cons_self
         have ba:=has_bit.1 (mem_list.1 ia);have bb:=has_bit.1 (mem_list.1 ib);have:=hd _ _ ba.2.2 bb.2.2;have:a=b:=by omega
         rw[List.nodup_cons] at hnd;exact hnd.1 (by rw[this];exact List.mem_cons_self)
      have hplc:∀z∈listN ((spreadG p fx s.2.1).1.getD j 0),0≤z∧z<64∧1≤plc p (fx++[((j:Int),z)]):=fun z hz=>by
       obtain⟨z0,z1,zb⟩:=has_bit.1 (mem_list.1 hz);refine⟨z0,z1,supp hc C (c:=j) (i:=z.toNat) hdec zb fun x hx=> ?_⟩;rcases List.mem_append.1 hx with hx|hx
       ·have hx1:=hfs x hx;exact⟨hx1.2.1,hx1.2.2,.inr ⟨hlt x hx,fun k hk=>given_one fx p.M x hx k (L _ _ hk)⟩⟩
       ·rw[List.mem_singleton] at hx;subst hx;exact⟨by simp only;omega,by simp only[Int.toNat_natCast];exact hseat,.inl ⟨rfl,by simp only;omega⟩⟩
      have hsum:=plc_kids p fx (j:Int) _ (list_nodup ((spreadG p fx s.2.1).1.getD j 0));have hlen:=many_list (hsm j) hm;have k:=kids_few hc hM (rec:=runF p n) (F0:=s.2.1) (b:=s.1+1) ho hseat (run_left hc hM n) (fun z s' z0 z1 hb hG' hold hp hle=>by
       have ho':(fx++[((j:Int),z)]).any (oddP (seatsF p.g).1 (seatsF p.g).2)=false:=by
        rw[List.any_append,ho,Bool.false_or,List.any_cons,List.any_nil,Bool.or_false];exact pair_seats hc (by omega) (by rw[Int.toNat_natCast];exact hseat) ⟨z0,z1⟩
       refine run_few hc hM n _ s' (by omega) hG' ho' (fun R CR LR x hx i hi a b ha hb'=> ?_) hp hle;have LR0:Leq R (givenF fx p.M):=by
        refine LR.trans fun y k hk=> ?_;have:givenF (fx++[((j:Int),z)]) p.M=givenF [((j:Int),z)] (givenF fx p.M):=given_app fx _ p.M;rw[this] at hk;exact given_leq _ _ y k hk
       have hsp:=(clo_spread hc (CR.sub hold) (fun l hl x hx=>(hG.seated hc l hl x hx).2.2) ((givenF fx p.M).sum+1) (givenF fx p.M) (given_len _ _) LR0).2;rcases List.mem_append.1 hx with hx|hx
       ·exact hD R (CR.sub hold) LR0 x hx i hi a b ha hb'
       ·rw[List.mem_singleton] at hx;have hxe:=hx;subst hx;simp only at hi;by_cases e2:i=j
        ·subst e2;have h1:=given_one _ p.M _ (List.mem_append_right fx List.mem_cons_self) a (LR _ a (by simp only[Int.toNat_natCast];exact ha));have h2:=given_one _ p.M _ (List.mem_append_right fx List.mem_cons_self) b (LR _ b (by simp only[Int.toNat_natCast];exact hb'));simp only at h1 h2;omega
        ·exact hdec i (by omega) a b (hsp i a ha) (hsp i b hb')) (run_up p n) (listN ((spreadG p fx s.2.1).1.getD j 0)) (s.1+1,s.2) (by simp only;omega) hG (fun l hl=>hl) hplc (by simp only;omega)
      have ks:=k.seen;simp only at ks;exact⟨k.how,by omega⟩
   ·exact⟨by simp,by simp only;omega⟩
theorem run_found {p:Pr} (hc:checkP p=0) (hM:Smalls p.M) (h4:(smallF p).2≤4000):∀(n:Nat) (fx:List (Int×Int)) (s:RunS),Good p s.2.1→fx.any (oddP (seatsF p.g).1 (seatsF p.g).2)=false→(runF p n fx s).1=1→(smallF p).1≠ []
 |0,fx,s,_,_,h=>by simp[runF] at h
 |n+1,fx,s,hG,ho,h=>by
  simp only[runF,runB] at h;split at h
  ·simp at h
  ·split at h
   ·rename_i hok;obtain⟨C,L⟩:=good_clo hc hM hG fx hok;have hsm:∀k,(spreadG p fx s.2.1).1.getD k 0<W64:=fun k=>(spread_small hc s.2.1 ((givenF fx p.M).sum+1) (givenF fx p.M) (given_len _ _) (given_small fx hM)).at k;rcases findU_at (spreadG p fx s.2.1).1 0 (by omega) with⟨e,hall⟩|⟨j,e,hj,hm,_⟩
    ·exact found_told hc C (fun j a b ha hb=>few_bits (hsm j) (hall j) ha hb) h4
    ·rw[Int.zero_add] at e;rw[if_neg (by omega),e,Int.toNat_natCast] at h;have hseat:=clo_seated C (many_ne hm);have key:∀(zs:List Int) (s':RunS),Good p s'.2.1→(∀z∈zs,0≤z∧z<64)→(kidsF (runF p n) fx (j:Int) zs s').1=1→(smallF p).1≠ []:=by
      intro zs;induction zs with
      |nil=>intro s' _ _ h;simp[kidsF] at h
      |cons z zs ih=>
       intro s' hG' hz h;have ho':(fx++[((j:Int),z)]).any (oddP (seatsF p.g).1 (seatsF p.g).2)=false:=by
        rw[List.any_append,ho,Bool.false_or,List.any_cons,List.any_nil,Bool.or_false];exact pair_seats hc (by omega) (by rw[Int.toNat_natCast];exact hseat) (hz z List.mem_cons_self)
       simp only[kidsF] at h;split at h
       ·exact ih _ (run_left hc hM n _ s' hG' ho').good (fun y hy=>hz y (List.mem_cons_of_mem _ hy)) h
       ·exact run_found hc hM h4 n _ s' hG' ho' h
     exact key _ (s.1+1,s.2) hG (fun z hz=>has_lt (mem_list.1 hz)) h
   ·simp at h
theorem prov_told {p:Pr} (hc:checkP p=0) (hM:Smalls p.M) (h:(provF p).2=0):∀f,¬Fil p (slotsF p.g) f:=by
 intro f F;obtain⟨_,⟨P,hP⟩,hl⟩:=prov_taken hc hM h;have hk:=prov_checked hc hM h;obtain⟨_,t2⟩:=taken_bar hc (B:=(provF p).1) hl;rw[hk] at t2;have hn:((provF p).1.length-1:Nat)< (provF p).1.length:=by rw[hP];simp
 obtain⟨_,t3⟩:=t2 ((provF p).1.length-1) (by
  unfold takenOf;rw[if_neg (by decide)];omega)
 refine t3 f F ?_;have e:(provF p).1.getD ((provF p).1.length-1) []=[]:=by
  rw[hP,List.length_append,List.length_singleton,Nat.add_sub_cancel,gE,List.getElem?_append_right (Nat.le_refl _),Nat.sub_self];rfl
 rw[e];intro x hx;simp at hx
theorem prov_small {p:Pr} (hc:checkP p=0) (hM:Smalls p.M) (h4:(smallF p).2≤4000):((smallF p).1≠ []→provF p=([],130))∧((smallF p).1=[]→(provF p).2=0):=by
 have good0:Good p ([]:List (List (Int×Int))):=fun j hj=>by simp at hj
 have hplc:(plc p []:Int)=(smallF p).2:=by
  have h1:=(down_full p.M (diffF [] p.W) (slotsF p.g) (List.replicate p.M.length (-1)) ([],0)).2 h4;have e:plc p []=cntS p.M (diffF [] p.W) (fun _=>true) (slotsF p.g) (List.replicate p.M.length (-1)):=by
   unfold plc;congr 1
  rw[e];have h2:(smallF p).2=(0:Int)+_:=h1;omega
 have hup:=(down_full p.M (diffF [] p.W) (slotsF p.g) (List.replicate p.M.length (-1)) ([],0)).1;have hup:(0:Int)< (smallF p).2:=hup;have few:=run_few hc hM (66000-(0:Int)).toNat [] (0,[],false) (by simp) good0 rfl (fun R _ _ x hx=>by simp at hx) (by omega) (by simp only;omega);have lft:=run_left hc hM (66000-(0:Int)).toNat [] (0,[],false) good0 rfl;have fnd:=run_found hc hM h4 (66000-(0:Int)).toNat [] (0,[],false) good0 rfl;have t:=runS_ok hc [] (0,[],false) ⟨by simp,by simp,fun l hl=>by simp at hl⟩ (by simp) ⟨by simp,fun x hx=>by simp at hx⟩;have e:runF p (66000-(0:Int)).toNat [] (0,[],false)=runS p [] (0,[],false):=rfl;rw[e] at few lft fnd;have hz:(provF p).2=0→(smallF p).1=[]:=fun h=>by
  cases hl:(smallF p).1 with
  |nil=>rfl
  |cons f l=>exact absurd (small_fil hc f (by rw[hl];exact List.mem_cons_self)) (prov_told hc hM h f)
 have hs:=few.seen;have hln:=t.ok.len;have hcase:(provF p)=([],130)∧(smallF p).1≠ []∨(provF p).2=0:=by
  unfold provF;rw[if_pos hc];obtain⟨r,hr⟩:∃r,runS p [] (0,[],false)=r:=⟨_,rfl⟩;rw[hr] at few lft fnd t hs hln⊢;simp only at hs;cases hb:r.2.2.2 with
  |true=>
   rw[if_pos rfl];refine .inl ⟨rfl,?_⟩;by_cases h1:r.1=1
   ·exact fnd h1
   ·have:=lft.flag h1;have h2:r.2.2.2=false:=this;rw[hb] at h2;cases h2
  |false=>
   rw[if_neg (by simp)];have hn:¬(r.1=2∨((r.2.2.1.length:Nat):Int)>65000):=by
    rintro(h|h)
    ·exact few.how h
    ·omega
   rw[if_neg hn];exact .inr rfl
 rcases hcase with⟨a,b⟩|a
 ·exact⟨fun _=>a,fun h=>absurd h b⟩
 ·exact⟨fun h=>absurd (hz a) h,fun _=>a⟩
set_option maxRecDepth 100000
theorem d98U (g:Gr) (W:List (List Int)) (M:List Nat) (F:List (List (Int×Int))) (seen:Int) (fb:Bool) (hc:checkP ⟨g,W,M⟩=0) (hM:Smalls M) (h2:seen≤66000) (h3:RunOk M.length (seen,F,fb)):Con Tryd.prog 98 [.box 129 [.fn 97 [.ptr 2 0 0],vb true,o0 1 F.length,vi g.h,vi g.w,sL .bool g.B,sL .bool g.R,sL .bool g.L,slW W,slU M,vi seen],.data 90 BT F,.box 4 [vb fb]] [.ptr 0 0 0] (vb ((runS ⟨g,W,M⟩ [] (seen,F,fb)).1 !=2)) [some (.box 129 [.fn 97 [.ptr 2 0 0],vb true,o0 3 (runS ⟨g,W,M⟩ [] (seen,F,fb)).2.2.1.length,vi g.h,vi g.w,sL .bool g.B,sL .bool g.R,sL .bool g.L,slW W,slU M,vi (runS ⟨g,W,M⟩ [] (seen,F,fb)).2.1]),none,some (.box 4 [vb (runS ⟨g,W,M⟩ [] (seen,F,fb)).2.2.2])] [.data 90 BT (runS ⟨g,W,M⟩ [] (seen,F,fb)).2.2.1]:=by
 refine con_vc (how:=[none]) (c:=u98) (K:=(KK u98)) spW2 (fun _=> []) (fun k=>if k=99 then [⟨1000020000,90,BT⟩] else []) 400 .stop (V:=fun G R=>let yy0:=(Pr.mk g W (Nt (Mi M)));let yy2:=(Value.int .i64 yy0.g.h);let yy3:=(Value.int .i64 yy0.g.w);cP 127 [Row.box 125 [D.ptr 2 0 0],Row.box 159 [D.fn 127 [p0,D.ptr 1 0 0]],Row.box 129 [D.fn 97 [D.ptr 4 0 0],vb true,o0 3 F.length,D.v yy2,D.v yy3,sL tB yy0.g.B,sL tB yy0.g.R,sL tB yy0.g.L,sL tI.sl yy0.W,sL tU (Mi yy0.M),vi seen],Row.data 90 tQ.sl F,Row.box 4 [vb fb]] [sL tQ [],p0,D.ptr 1 0 0] (vi (runS yy0 [] (seen,F,fb)).fst) [some (Row.box 125 [D.ptr 2 0 0]),some (Row.box 159 [D.fn 127 [p0,D.ptr 1 0 0]]),some (Row.box 129 [D.fn 97 [D.ptr 4 0 0],vb true,o0 5 (runS yy0 [] (seen,F,fb)).snd.snd.fst.length,D.v yy2,D.v yy3,sL tB yy0.g.B,sL tB yy0.g.R,sL tB yy0.g.L,sL tI.sl yy0.W,sL tU (Mi yy0.M),vi (runS yy0 [] (seen,F,fb)).snd.fst]),none,some (Row.box 4 [vb (runS yy0 [] (seen,F,fb)).snd.snd.snd])] [Row.data 90 tQ.sl (runS yy0 [] (seen,F,fb)).snd.snd.fst]∧([]:List (Int×Int))=[]∧3=3∧0=0∧0=0∧4=4∧0=0∧0=0∧some (Row.box 125 [p0])=some (Row.box 125 [p0])∧some (Row.box 159 [D.fn 127 [D.ptr 3 0 0,D.ptr 4 0 0]])=some (Row.box 159 [D.fn 127 [D.ptr 3 0 0,D.ptr 4 0 0]])∧some (Row.box 129 [D.fn 97 [D.ptr 2 0 0],vb true,o0 1 F.length,vi g.h,vi g.w,sL tB g.B,sL tB g.R,sL tB g.L,sL tI.sl W,sL tU (Mi M),vi seen])=some (Row.box 129 [D.fn 97 [D.ptr 2 0 0],vb true,o0 1 F.length,D.v yy2,D.v yy3,sL tB yy0.g.B,sL tB yy0.g.R,sL tB yy0.g.L,sL tI.sl yy0.W,sL tU (Mi yy0.M),vi seen])∧some (Row.data 90 tQ.sl F)=some (Row.data 90 tQ.sl F)∧some (Row.box 4 [vb fb])=some (Row.box 4 [vb fb])∧R (vb ((runS yy0 [] (seen,F,fb)).fst !=(2:Int)),[some (Row.box 129 [D.fn 97 [D.ptr 2 0 0],vb true,o0 3 (runS yy0 [] (seen,F,fb)).snd.snd.fst.length,D.v yy2,D.v yy3,sL tB yy0.g.B,sL tB yy0.g.R,sL tB yy0.g.L,sL tI.sl yy0.W,sL tU (Mi yy0.M),vi (runS yy0 [] (seen,F,fb)).snd.fst]),none,some (Row.box 4 [vb (runS yy0 [] (seen,F,fb)).snd.snd.snd])],[Row.data 90 tQ.sl (List.take (runS yy0 [] (seen,F,fb)).snd.snd.fst.length (List.drop 0 (runS yy0 [] (seen,F,fb)).snd.snd.fst))])) hmG Tryd.func98 (by kernel_rfl) (by kernel_rfl) (fun G R=>by kernel_rfl) ?_
 try dsimp only
 try dsimp only
 have c1:=d127U g W M hc hM [] (seen,F,fb) h2 h3 ⟨h3.pos,fun x hx=>by simp at hx⟩;simp only at c1;simp only[Nt_Mi,zz,Mi_take];simp (disch:=omega) only[oo,oop,oq,reduceCtorEq];repeat' first|with_reducible apply And.intro|intro _|rfl|omega|assumption|trivial|(exfalso;simp_all;done)
theorem d96U (g:Gr) (W:List (List Int)) (M:List Nat):Con Tryd.prog 96 [] [.agg (gG g [slW W,slU M])] (.ptr 0 0 0) [] [.box 129 [.v .nilFunc,vb false,o0 1 0,vi g.h,vi g.w,sL .bool g.B,sL .bool g.R,sL .bool g.L,slW W,slU M,vi 0],.data 90 BT []]:=by
 refine con_vc (how:=[none]) (c:=u96) (K:=(KK u96)) spW2 (fun _=> []) (fun k=>if k=99 then [⟨20005,90,BT⟩] else []) 400 .stop (V:=fun G R=>R (p0,[],[Row.box 129 [D.v Value.nilFunc,vb false,o0 1 0,vi g.h,vi g.w,sL tB g.B,sL tB g.R,sL tB g.L,sL tI.sl W,sL tU (Mi M),vi 0],Row.data 90 tQ.sl []])) hmG Tryd.func96 (by kernel_rfl) (by kernel_rfl) (fun G R=>by kernel_rfl) ?_;try dsimp only
 all_goals rfl
theorem d59U (g:Gr) (W:List (List Int)) (M:List Nat) (hM:Smalls M):Con Tryd.prog 59 [] [.agg (gG g [slW W,slU M])] (.tup [o0 0 (provF ⟨g,W,M⟩).1.length,vi (provF ⟨g,W,M⟩).2]) [] [.data 90 BT (provF ⟨g,W,M⟩).1]:=by
 refine con_vc (how:=[none,none]) (c:=u59) (K:=(KK u59)) spW2 (fun _=> []) (fun k=>if k=99 then [⟨2,90,BT⟩] else []) 400 (.fork .stop (.fork .stop (.fork (.t .stop) (.fork .stop .stop)))) (V:=fun G R=>let yy0:=(Pr.mk (Pr.mk g W (Nt (Mi M))).g (Pr.mk g W (Nt (Mi M))).W (Nt (Mi (Pr.mk g W (Nt (Mi M))).M)));let yy1:=(Pr.mk g W (Nt (Mi M)));let yy3:=(Value.int .i64 (0:Int));let yy6:=(Value.int .i64 yy1.g.h);let yy7:=(Value.int .i64 yy1.g.w);cP 89 [] [D.agg [D.v yy6,D.v yy7,sL tB yy1.g.B,sL tB yy1.g.R,sL tB yy1.g.L,sL tI.sl yy1.W,sL tU (Mi yy1.M)]] (vi (checkP yy1)) [] []∧gS g yy1.g (W=yy1.W∧Mi M=Mi yy1.M∧((checkP yy1 !=(0:Int))=true→R (D.tup [o0 0 0,vi (checkP yy1)],[],[Row.data 90 tQ.sl []]))∧((checkP yy1 !=(0:Int))=false→cP 96 [] [D.agg [D.v yy6,D.v yy7,sL tB yy1.g.B,sL tB yy1.g.R,sL tB yy1.g.L,sL tI.sl yy1.W,sL tU (Mi yy1.M)]] (p0) [] [Row.box 129 [D.v Value.nilFunc,vb false,o0 1 0,D.v yy6,D.v yy7,sL tB yy1.g.B,sL tB yy1.g.R,sL tB yy1.g.L,sL tI.sl yy1.W,sL tU (Mi yy1.M),D.v yy3],Row.data 90 tQ.sl []]∧gS g yy1.g (W=yy1.W∧Mi M=Mi yy1.M∧cP 98 [Row.box 129 [D.fn 97 [D.ptr 2 0 0],vb true,o0 1 0,vi yy0.g.h,vi yy0.g.w,sL tB yy0.g.B,sL tB yy0.g.R,sL tB yy0.g.L,sL tI.sl yy0.W,sL tU (Mi yy0.M),D.v yy3],Row.data 90 tQ.sl [],Row.box 4 [vb false]] [p0] (vb ((runS yy0 [] ((0:Int),[],false)).fst !=(2:Int))) [some (Row.box 129 [D.fn 97 [D.ptr 2 0 0],vb true,o0 3 (runS yy0 [] ((0:Int),[],false)).snd.snd.fst.length,vi yy0.g.h,vi yy0.g.w,sL tB yy0.g.B,sL tB yy0.g.R,sL tB yy0.g.L,sL tI.sl yy0.W,sL tU (Mi yy0.M),vi (runS yy0 [] ((0:Int),[],false)).snd.fst]),none,some (Row.box 4 [vb (runS yy0 [] ((0:Int),[],false)).snd.snd.snd])] [Row.data 90 tQ.sl (runS yy0 [] ((0:Int),[],false)).snd.snd.fst]∧9=9∧0=0∧0=0∧some (Row.box 129 [D.fn 97 [D.ptr 17 0 0],vb true,o0 10 0,D.v yy6,D.v yy7,sL tB yy1.g.B,sL tB yy1.g.R,sL tB yy1.g.L,sL tI.sl yy1.W,sL tU (Mi yy1.M),D.v yy3])=some (Row.box 129 [D.fn 97 [D.ptr 17 0 0],vb true,o0 10 0,vi yy0.g.h,vi yy0.g.w,sL tB yy0.g.B,sL tB yy0.g.R,sL tB yy0.g.L,sL tI.sl yy0.W,sL tU (Mi yy0.M),D.v yy3])∧some (Row.data 90 tQ.sl [])=some (Row.data 90 tQ.sl [])∧some (Row.box 4 [vb false])=some (Row.box 4 [vb false])∧((runS yy0 [] ((0:Int),[],false)).snd.snd.snd=true→R (D.tup [o0 0 0,vi 130],[],[Row.data 90 tQ.sl []]))∧((runS yy0 [] ((0:Int),[],false)).snd.snd.snd=false→((!(runS yy0 [] ((0:Int),[],false)).fst !=(2:Int))=true→true=true∧R (D.tup [o0 0 0,vi 2],[],[Row.data 90 tQ.sl []]))∧((!(runS yy0 [] ((0:Int),[],false)).fst !=(2:Int))=false→(decide ((↑(runS yy0 [] ((0:Int),[],false)).snd.snd.fst.length:Int)>65000)=true→R (D.tup [o0 0 0,vi 2],[],[Row.data 90 tQ.sl []]))∧(decide ((↑(runS yy0 [] ((0:Int),[],false)).snd.snd.fst.length:Int)>65000)=false→R (D.tup [o0 0 (runS yy0 [] ((0:Int),[],false)).snd.snd.fst.length,D.v yy3],[],[Row.data 90 tQ.sl (runS yy0 [] ((0:Int),[],false)).snd.snd.fst])))))))) hmG Tryd.func59 (by kernel_rfl) (by kernel_rfl) (fun G R=>by kernel_rfl) ?_
 try dsimp only
 try dsimp only
 have c89:=d62 g W M;have c96:=d96U g W M;obtain⟨a,ha⟩:∃a,provF ⟨g,W,M⟩=a:=⟨_,rfl⟩;rw[ha];unfold provF at ha;simp only[Nt_Mi,zz,Mi_take];by_cases hc:checkP ⟨g,W,M⟩=0
 ·have w:(checkP ⟨g,W,M⟩ !=0)=false:=by rw[hc];rfl
  rw[if_pos hc] at ha;have c98:=d98U g W M [] 0 false hc hM (by omega) ⟨by simp,by simp,fun l hl=>by simp at hl⟩;obtain⟨r,hr⟩:∃r,runS ⟨g,W,M⟩ [] (0,[],false)=r:=⟨_,rfl⟩;rw[hr] at ha c98;rw[hc] at c89;simp only[w,hr,hc];cases hb:r.2.2.2 with
  |true=>
   rw[hb] at ha c98;rw[if_pos rfl] at ha;subst ha;simp (disch:=omega) only[oo,oop,oq,reduceCtorEq];repeat' first|with_reducible apply And.intro|intro _|rfl|omega|assumption|trivial|(exfalso;simp_all;done)
  |false=>
   rw[hb] at ha c98;rw[if_neg (by simp)] at ha;by_cases h2:r.1=2
   ·rw[if_pos (Or.inl h2)] at ha;subst ha;have w2:(r.1 !=2)=false:=by rw[h2];rfl
    rw[w2] at c98;simp only[w2,Bool.not_false];simp (disch:=omega) only[oo,oop,oq,reduceCtorEq];repeat' first|with_reducible apply And.intro|intro _|rfl|omega|assumption|trivial|(exfalso;simp_all;done)
   ·have w2:(r.1 !=2)=true:=by rw[bne_iff_ne];exact h2
    rw[w2] at c98;by_cases h3:((r.2.2.1.length:Nat):Int)>65000
    ·rw[if_pos (Or.inr h3)] at ha;subst ha;have w3:decide ((r.2.2.1.length:Int)>65000)=true:=decide_eq_true h3;simp only[w2,w3,Bool.not_true];simp (disch:=omega) only[oo,oop,oq,reduceCtorEq];repeat' first|with_reducible apply And.intro|intro _|rfl|omega|assumption|trivial|(exfalso;simp_all;done)
    ·rw[if_neg (by omega)] at ha;subst ha;have w3:decide ((r.2.2.1.length:Int)>65000)=false:=decide_eq_false h3;simp only[w2,w3,Bool.not_true];simp (disch:=omega) only[oo,oop,oq,reduceCtorEq];repeat' first|with_reducible apply And.intro|intro _|rfl|omega|assumption|trivial|(exfalso;simp_all;done)
 ·have w:(checkP ⟨g,W,M⟩ !=0)=true:=by rw[bne_iff_ne];exact hc
  rw[if_neg hc] at ha;subst ha;simp only[w];simp (disch:=omega) only[oo,oop,oq,reduceCtorEq];repeat' first|with_reducible apply And.intro|intro _|rfl|omega|assumption|trivial|(exfalso;simp_all;done)
def vq54 (g:Gr) (W:List (List Int)) (M:List Nat) (F:List Int) (C:List Int) (X:List Int) (nu:Int) (dn:Bool) (k:Int) (Q:List Int) (G:GT) (R:RT):Prop:=let yy0:=((!hasN (Int.toNat ((Mi M).getD (Int.toNat (C.getD k.toNat tI.dflt)) tU.dflt)) (X.getD k.toNat tI.dflt))=false→0≤k∧k<X.length∧(0:Int)≤C.getD k.toNat tI.dflt∧C.getD k.toNat tI.dflt< (↑Q.length:Int)∧0+Int.toNat (C.getD k.toNat tI.dflt)<Q.length∧sK r148 0∧G 0 (stOf 70 [1,3,4,6,10,11] [sL tI F,sL tI X,p0,D.ptr 1 0 0,o0 2 Q.length,vi (IntKind.i64.wrap (k+1))] [lB 73 (gG g [sL tI.sl W,sL tU (Mi M)]),lB 50 [vi nu,vb dn,sL tI C],lD 3 tI (Q.set (0+Int.toNat (C.getD k.toNat tI.dflt)) (X.getD k.toNat tI.dflt))]));let yy1:=((Mi M).getD (Int.toNat (C.getD k.toNat tI.dflt)) tU.dflt);let yy3:=(X.getD k.toNat tI.dflt);let yy4:=(Int.toNat (C.getD k.toNat tI.dflt));(decide (k<X.length)=true→0≤k∧k<C.length∧(0:Int)≤C.getD k.toNat tI.dflt∧C.getD k.toNat tI.dflt< (↑F.length:Int)∧(decide (F.getD yy4 tI.dflt≥(0:Int))=true→(0:Int)≤C.getD k.toNat tI.dflt∧C.getD k.toNat tI.dflt< (↑F.length:Int)∧0≤k∧k<X.length∧((F.getD yy4 tI.dflt !=X.getD k.toNat tI.dflt)=true→true=true∧R (D.tup [o0 0 0,vb false],[],[Row.data 3 tI []]))∧((F.getD yy4 tI.dflt !=X.getD k.toNat tI.dflt)=false→(0:Int)≤C.getD k.toNat tI.dflt∧C.getD k.toNat tI.dflt< (↑(Mi M).length:Int)∧0≤k∧k<X.length∧cP 33 [] [D.v (Value.int .u64 yy1),vi yy3] (vb (hasN (Int.toNat yy1) yy3)) [] []∧Value.int .u64 yy1=Value.int .u64 yy1∧vE yy3 yy3∧((!hasN (Int.toNat yy1) yy3)=true→R (D.tup [o0 0 0,vb false],[],[Row.data 3 tI []]))∧yy0))∧(decide (F.getD yy4 tI.dflt≥(0:Int))=false→false=false∧(0:Int)≤C.getD k.toNat tI.dflt∧C.getD k.toNat tI.dflt< (↑(Mi M).length:Int)∧0≤k∧k<X.length∧cP 33 [] [D.v (Value.int .u64 yy1),vi yy3] (vb (hasN (Int.toNat yy1) yy3)) [] []∧Value.int .u64 yy1=Value.int .u64 yy1∧vE yy3 yy3∧((!hasN (Int.toNat yy1) yy3)=true→R (D.tup [o0 0 0,vb false],[],[Row.data 3 tI []]))∧yy0))∧(decide (k<X.length)=false→R (D.tup [o0 0 Q.length,vb true],[],[Row.data 3 tI Q]))
theorem e148 (g:Gr) (W:List (List Int)) (M:List Nat) (F C X:List Int) (nu:Int) (dn:Bool) (hM:Smalls M) (hF:F.length=M.length) (hX:X.length≤32) (hl:X.length=C.length) (hC:∀c∈C,0≤c∧c<M.length) (z:Nat):∀(k:Int) (Q:List Int),0≤k→k+z=X.length→Q.length=M.length→∀r,r=laidR (wlayF M F (C.drop k.toNat) (X.drop k.toNat) Q)→GetsK Tryd.prog Tryd.f148.results.toList [none,none] (KK r148) 0 (.tup [o0 0 r.1.length,vb r.2],[],[.data 3 (.int .i64) r.1]) 0 (stOf 70 [1,3,4,6,10,11] [slI F,slI X,.ptr 0 0 0,.ptr 1 0 0,o0 2 Q.length,vi k] [lB 73 (gG g [slW W,slU M]),lB 50 [vi nu,vb dn,slI C],lD 3 (.int .i64) Q]):=by
 induction z with
 |zero=>
  intro k Q k0 hk hQ r hr;rw[List.drop_eq_nil_of_le (by omega),List.drop_eq_nil_of_le (by omega)] at hr;have hr:r=(Q,true):=hr;subst hr;refine gets_vc spY (fun _=> [1,3,4,6,10,11]) (fun k=>if k=99 then [⟨8,3,.int .i64⟩] else []) 400 (.fork (.fork (.fork (.t .stop) (.fork .stop (.hd 0))) (.f (.fork .stop (.hd 0)))) .stop) (V:=vq54 g W M F C X nu dn k Q) hmG (fun G R=>by kernel_rfl) ?_;unfold vq54;try dsimp only
  simp (disch:=omega) only[oo,oop,oq,reduceCtorEq];repeat' first|with_reducible apply And.intro|intro _|rfl|omega|assumption|trivial|(exfalso;simp_all;done)
 |succ z ih=>
  intro k Q k0 hk hQ r hr;have hk1:IntKind.i64.wrap (k+1)=k+1:=wrG (by omega) (by omega);have hcm:=hC _ (getD_in (d:=(0:Int)) (k:=k.toNat) (l:=C) (by omega));rw[drop_at (xs:=C) (i:=k) 0 k0 (by omega),drop_at (xs:=X) (i:=k) 0 k0 (by omega)] at hr;obtain⟨c,hcc⟩:∃c,C.getD k.toNat 0=c:=⟨_,rfl⟩;obtain⟨y,hyy⟩:∃y,X.getD k.toNat 0=y:=⟨_,rfl⟩;rw[hcc] at hcm;rw[hcc,hyy] at hr;have c33:=d111 (M.getD c.toNat 0) y (hM.at _);have hg:=ih (k+1) (Q.set c.toNat y) (by omega) (by omega) (by rw[List.length_set];exact hQ) _ rfl;rw[List.length_set] at hg;simp only[wlayF] at hr;refine gets_vc spY (fun _=> [1,3,4,6,10,11]) (fun k=>if k=99 then [⟨8,3,.int .i64⟩] else []) 400 (.fork (.fork (.fork (.t .stop) (.fork .stop (.hd 0))) (.f (.fork .stop (.hd 0)))) .stop) (V:=vq54 g W M F C X nu dn k Q) hmG (fun G R=>by kernel_rfl) ?_;unfold vq54;try dsimp only
  simp only[Ty.dflt,hk1,hcc,hyy,zz,Mi_take];cases h1:decide (F.getD c.toNat 0≥0) with
  |false=>
   rw[h1,Bool.false_and,Bool.false_or] at hr;cases h3:hasN (M.getD c.toNat 0) y with
   |false=>
    rw[h3,Bool.not_false,if_pos rfl] at hr;have hr:r=([],false):=hr;subst hr;rw[h3] at c33;simp only[Bool.not_false];simp (disch:=omega) only[oo,oop,oq,reduceCtorEq];repeat' first|with_reducible apply And.intro|intro _|rfl|omega|assumption|trivial|(exfalso;simp_all;done)
   |true=>
    rw[h3,Bool.not_true,if_neg (by simp)] at hr;rw[←hr] at hg;rw[h3] at c33;simp only[Bool.not_true];simp (disch:=omega) only[oo,oop,oq,reduceCtorEq];repeat' first|with_reducible apply And.intro|intro _|rfl|omega|assumption|trivial|(exfalso;simp_all;done)
  |true=>
   cases h2:F.getD c.toNat 0 !=y with
   |true=>
    rw[h1,h2,Bool.true_and,Bool.true_or,if_pos rfl] at hr;have hr:r=([],false):=hr;subst hr;simp (disch:=omega) only[oo,oop,oq,reduceCtorEq];repeat' first|with_reducible apply And.intro|intro _|rfl|omega|assumption|trivial|(exfalso;simp_all;done)
   |false=>
    rw[h1,h2,Bool.true_and,Bool.false_or] at hr;cases h3:hasN (M.getD c.toNat 0) y with
    |false=>
     rw[h3,Bool.not_false,if_pos rfl] at hr;have hr:r=([],false):=hr;subst hr;rw[h3] at c33;simp only[Bool.not_false];simp (disch:=omega) only[oo,oop,oq,reduceCtorEq];repeat' first|with_reducible apply And.intro|intro _|rfl|omega|assumption|trivial|(exfalso;simp_all;done)
    |true=>
     rw[h3,Bool.not_true,if_neg (by simp)] at hr;rw[←hr] at hg;rw[h3] at c33;simp only[Bool.not_true];simp (disch:=omega) only[oo,oop,oq,reduceCtorEq];repeat' first|with_reducible apply And.intro|intro _|rfl|omega|assumption|trivial|(exfalso;simp_all;done)
theorem d148 (g:Gr) (W:List (List Int)) (M:List Nat) (F C X:List Int) (nu:Int) (dn:Bool) (hM:Smalls M) (hF:F.length=M.length) (hm:M.length≤300) (hX:X.length≤32) (hC:∀c∈C,0≤c∧c<M.length):Con Tryd.prog 148 [] [.agg (gG g [slW W,slU M]),slI F,.agg [vi nu,vb dn,slI C],slI X] (.tup [o0 0 (laidR (wlayF M F C X F)).1.length,vb (laidR (wlayF M F C X F)).2]) [] [.data 3 (.int .i64) (laidR (wlayF M F C X F)).1]:=by
 refine con_vc (how:=[none,none]) (c:=r148) (K:=(KK r148)) spY (fun _=> [1,3,4,6,10,11]) (fun k=>if k=99 then [⟨8,3,.int .i64⟩] else []) 400 (.fork .stop (.hd 0)) (V:=fun G R=>(((↑X.length:Int) !=(↑C.length:Int))=true→R (D.tup [o0 0 0,vb false],[],[Row.data 3 tI []]))∧(((↑X.length:Int) !=(↑C.length:Int))=false→rM 3 (0+F.length)∧sK r148 0∧G 0 (stOf 70 [1,3,4,6,10,11] [sL tI F,sL tI X,p0,D.ptr 1 0 0,o0 2 (0+F.length),vi 0] [lB 73 (gG g [sL tI.sl W,sL tU (Mi M)]),lB 50 [vi nu,vb dn,sL tI C],lD 3 tI (List.take 0 (List.drop 0 [])++F)]))) hmG Tryd.func148 (by kernel_rfl) (by kernel_rfl) (fun G R=>by kernel_rfl) ?_;try dsimp only
 try dsimp only
 obtain⟨r,hr⟩:∃r,laidR (wlayF M F C X F)=r:=⟨_,rfl⟩;rw[hr];by_cases hl:X.length=C.length
 ·have hx:=e148 g W M F C X nu dn hM hF hX hl hC X.length 0 F (by omega) (by omega) hF r hr.symm;have w:((X.length:Int) !=(C.length:Int))=false:=by rw[hl];simp
  simp only[w,zz,Mi_take];simp (disch:=omega) only[oo,oop,oq,reduceCtorEq];repeat' first|with_reducible apply And.intro|intro _|rfl|omega|assumption|trivial|exact room3 (by omega)|exact roomW (by omega)|(exfalso;simp_all;done)
 ·have w:((X.length:Int) !=(C.length:Int))=true:=by rw[bne_iff_ne];omega
  have hr2:r=([],false):=by
   rw[←hr];cases e:wlayF M F C X F with
   |none=>rfl
   |some h=>exact absurd (wlay_len e) hl
  subst hr2;simp only[w];simp (disch:=omega) only[oo,oop,oq,reduceCtorEq];repeat' first|with_reducible apply And.intro|intro _|rfl|omega|assumption|trivial|exact room3 (by omega)|exact roomW (by omega)|(exfalso;simp_all;done)
def vq55 (W:List (List Int)) (L:List (List Int)) (i:Int) (k:Int) (fd:Bool) (G:GT) (R:RT):Prop:=let yy0:=((!fd)=true→0≤i∧i<W.length∧rM 27 (L.length+1)∧sK r134 0∧G 0 (stOf 42 [0,3,4] [sL tI.sl W,o0 0 (L.length+1),vi (IntKind.i64.wrap (i+1))] [lD 27 tI.sl (List.take L.length (List.drop 0 L)++List.take 1 (List.drop 0 [W.getD i.toNat tI.sl.dflt]))]));let yy2:=((!fd)=false→sK r134 0∧G 0 (stOf 42 [0,3,4] [sL tI.sl W,o0 0 L.length,vi (IntKind.i64.wrap (i+1))] [lD 27 tI.sl L]));let yy3:=(Value.bool (decide (L.getD (0+k.toNat) tI.sl.dflt=W.getD i.toNat tI.sl.dflt)));(decide (k<L.length)=true→((!fd)=true→0≤k∧k<L.length∧0+k.toNat<L.length∧0≤i∧i<W.length∧cP 23 [] [sL tI (L.getD (0+k.toNat) tI.sl.dflt),sL tI (W.getD i.toNat tI.sl.dflt)] (D.v yy3) [] []∧L.getD (0+k.toNat) tI.sl.dflt=L.getD (0+k.toNat) tI.sl.dflt∧W.getD i.toNat tI.sl.dflt=W.getD i.toNat tI.sl.dflt∧sK r134 1∧G 1 (stOf 42 [0,3,4,5,6] [sL tI.sl W,o0 0 L.length,vi i,D.v yy3,vi (IntKind.i64.wrap (k+1))] [lD 27 tI.sl L]))∧((!fd)=false→yy0∧yy2))∧(decide (k<L.length)=false→false=false∧yy0∧yy2)
theorem e134b (W L:List (List Int)) (hL:L.length≤1000) (hw:∀s∈L,s.length≤32) (i:Int) (i0:0≤i) (i1:i<W.length) (hii:IntKind.i64.wrap (i+1)=i+1) (v:List Int) (hv:W.getD i.toNat []=v) (r:List (List Int)) (hx:GetsK Tryd.prog Tryd.f134.results.toList [none] (KK r134) 0 (o0 0 r.length,[],[.data 27 WT r]) 0 (stOf 42 [0,3,4] [slW W,o0 0 (if L.any (fun u=>decide (u=v)) then L else L++[v]).length,vi (i+1)] [lD 27 WT (if L.any (fun u=>decide (u=v)) then L else L++[v])])) (z:Nat):∀(k:Int) (fd:Bool),0≤k→k+z=L.length→L.any (fun u=>decide (u=v))=(fd||(L.drop k.toNat).any (fun u=>decide (u=v)))→GetsK Tryd.prog Tryd.f134.results.toList [none] (KK r134) 0 (o0 0 r.length,[],[.data 27 WT r]) 1 (stOf 42 [0,3,4,5,6] [slW W,o0 0 L.length,vi i,vb fd,vi k] [lD 27 WT L]):=by
 have ext:∀fd,L.any (fun u=>decide (u=v))=fd→(fd=false→GetsK Tryd.prog Tryd.f134.results.toList [none] (KK r134) 0 (o0 0 r.length,[],[.data 27 WT r]) 0 (stOf 42 [0,3,4] [slW W,o0 0 (L++[v]).length,vi (i+1)] [lD 27 WT (L++[v])]))∧(fd=true→GetsK Tryd.prog Tryd.f134.results.toList [none] (KK r134) 0 (o0 0 r.length,[],[.data 27 WT r]) 0 (stOf 42 [0,3,4] [slW W,o0 0 L.length,vi (i+1)] [lD 27 WT L])):=by
  intro fd h;rw[h] at hx;exact⟨fun e=>by rw[e] at hx;exact hx,fun e=>by rw[e] at hx;exact hx⟩
 induction z with
 |zero=>
  intro k fd k0 hk ha;rw[List.drop_eq_nil_of_le (by omega),List.any_nil,Bool.or_false] at ha;obtain⟨x1,x2⟩:=ext fd ha;simp only[List.length_append,List.length_cons,List.length_nil] at x1;refine gets_vc spY (fun k=> [[0,3,4],[0,3,4,5,6]].getD k []) (fun k=>if k=99 then [⟨2,27,WT⟩] else [⟨3,27,WT⟩]) 400 (.fork (.fork (.hd 1) (.fork (.hd 0) (.hd 0))) (.f (.fork (.hd 0) (.hd 0)))) (V:=vq55 W L i k fd) hmG (fun G R=>by kernel_rfl) ?_;unfold vq55;try dsimp only
  simp only[Ty.dflt,hii,hv,zz,Mi_take];cases fd with
  |false=>
   have x1:=x1 rfl;simp only[Bool.not_false];simp (disch:=omega) only[oo,oop,oq,reduceCtorEq];repeat' first|with_reducible apply And.intro|intro _|rfl|omega|assumption|trivial|exact room3 (by omega)|exact roomW (by omega)|(exfalso;simp_all;done)
  |true=>
   have x2:=x2 rfl;simp only[Bool.not_true];simp (disch:=omega) only[oo,oop,oq,reduceCtorEq];repeat' first|with_reducible apply And.intro|intro _|rfl|omega|assumption|trivial|exact room3 (by omega)|exact roomW (by omega)|(exfalso;simp_all;done)
 |succ z ih=>
  intro k fd k0 hk ha;have hk1:IntKind.i64.wrap (k+1)=k+1:=wrG (by omega) (by omega);have hsw:=hw _ (getD_in (d:=[]) (k:=k.toNat) (l:=L) (by omega));refine gets_vc spY (fun k=> [[0,3,4],[0,3,4,5,6]].getD k []) (fun k=>if k=99 then [⟨2,27,WT⟩] else [⟨3,27,WT⟩]) 400 (.fork (.fork (.hd 1) (.fork (.hd 0) (.hd 0))) (.f (.fork (.hd 0) (.hd 0)))) (V:=vq55 W L i k fd) hmG (fun G R=>by kernel_rfl) ?_;unfold vq55;try dsimp only
  simp only[Ty.dflt,hii,hk1,hv,zz,Mi_take];cases fd with
  |true=>
   rw[Bool.true_or] at ha;have x2:=(ext true ha).2 rfl;simp only[Bool.not_true];simp (disch:=omega) only[oo,oop,oq,reduceCtorEq];repeat' first|with_reducible apply And.intro|intro _|rfl|omega|assumption|trivial|exact room3 (by omega)|exact roomW (by omega)|(exfalso;simp_all;done)
  |false=>
   rw[drop_at (xs:=L) (i:=k) [] k0 (by omega),List.any_cons,Bool.false_or] at ha;obtain⟨u,hu⟩:∃u,L.getD k.toNat []=u:=⟨_,rfl⟩;rw[hu] at ha hsw;have c23:=d41 u v (by omega);have hg:=ih (k+1) (decide (u=v)) (by omega) (by omega) ha;simp only[hu,Bool.not_false];simp (disch:=omega) only[oo,oop,oq,reduceCtorEq];repeat' first|with_reducible apply And.intro|intro _|rfl|omega|assumption|trivial|exact room3 (by omega)|exact roomW (by omega)|(exfalso;simp_all;done)
theorem e134 (W:List (List Int)) (hW:W.length≤1000) (hw:∀s∈W,s.length≤32) (z:Nat):∀(i:Int) (L:List (List Int)),0≤i→i+z=W.length→L.length≤i→(∀s∈L,s.length≤32)→∀r,r=diffF L (W.drop i.toNat)→GetsK Tryd.prog Tryd.f134.results.toList [none] (KK r134) 0 (o0 0 r.length,[],[.data 27 WT r]) 0 (stOf 42 [0,3,4] [slW W,o0 0 L.length,vi i] [lD 27 WT L]):=by
 induction z with
 |zero=>
  intro i L i0 hi hL hs r hr;rw[List.drop_eq_nil_of_le (by omega)] at hr;have hr:r=L:=hr;subst hr;refine gets_vc spY (fun k=> [[0,3,4],[0,3,4,5,6]].getD k []) (fun k=>if k=99 then [⟨2,27,WT⟩] else [⟨3,27,WT⟩]) 400 (.fork (.hd 1) .stop) (V:=fun G R=>(decide (i<W.length)=true→sK r134 1∧G 1 (stOf 42 [0,3,4,5,6] [sL tI.sl W,o0 0 r.length,vi i,vb false,vi 0] [lD 27 tI.sl r]))∧(decide (i<W.length)=false→R (o0 0 r.length,[],[Row.data 27 tI.sl r]))) hmG (fun G R=>by kernel_rfl) ?_;simp (disch:=omega) only[oo,oop,oq,reduceCtorEq];repeat' first|with_reducible apply And.intro|intro _|rfl|omega|assumption|trivial|(exfalso;simp_all;done)
 |succ z ih=>
  intro i L i0 hi hL hs r hr;have hsw:=hw _ (getD_in (d:=[]) (k:=i.toNat) (l:=W) (by omega));rw[drop_at (xs:=W) (i:=i) [] i0 (by omega)] at hr;obtain⟨v,hv⟩:∃v,W.getD i.toNat []=v:=⟨_,rfl⟩;rw[hv] at hr hsw;simp only[diffF] at hr;have hx:=ih (i+1) (if L.any (fun u=>decide (u=v)) then L else L++[v]) (by omega) (by omega) (by split;omega;simp;omega) (by
   split
   ·exact hs
   ·intro s h;rcases List.mem_append.1 h with h|h
    ·exact hs s h
    ·rw[List.mem_singleton.1 h];exact hsw) r hr
  have hg:=e134b W L (by omega) hs i i0 (by omega) (wrG (by omega) (by omega)) v hv r hx L.length 0 false (by omega) (by omega) (by rw[Bool.false_or];rfl);refine gets_vc spY (fun k=> [[0,3,4],[0,3,4,5,6]].getD k []) (fun k=>if k=99 then [⟨2,27,WT⟩] else [⟨3,27,WT⟩]) 400 (.fork (.hd 1) .stop) (V:=fun G R=>(decide (i<W.length)=true→sK r134 1∧G 1 (stOf 42 [0,3,4,5,6] [sL tI.sl W,o0 0 L.length,vi i,vb false,vi 0] [lD 27 tI.sl L]))∧(decide (i<W.length)=false→R (o0 0 L.length,[],[Row.data 27 tI.sl L]))) hmG (fun G R=>by kernel_rfl) ?_;simp (disch:=omega) only[oo,oop,oq,reduceCtorEq];repeat' first|with_reducible apply And.intro|intro _|rfl|omega|assumption|trivial|(exfalso;simp_all;done)
theorem d134 (W:List (List Int)) (hW:W.length≤1000) (hw:∀s∈W,s.length≤32):Con Tryd.prog 134 [] [slW W] (o0 0 (diffF [] W).length) [] [.data 27 WT (diffF [] W)]:=by
 refine con_vc (how:=[none]) (c:=r134) (K:=(KK r134)) spY (fun k=> [[0,3,4],[0,3,4,5,6]].getD k []) (fun k=>if k=99 then [⟨2,27,WT⟩] else [⟨3,27,WT⟩]) 400 (.hd 0) (V:=fun G R=>sK r134 0∧G 0 (stOf 42 [0,3,4] [sL tI.sl W,o0 0 0,vi 0] [lD 27 tI.sl []])) hmG Tryd.func134 (by kernel_rfl) (by kernel_rfl) (fun G R=>by kernel_rfl) ?_;try dsimp only
 have hx:=e134 W hW hw W.length 0 [] (by omega) (by omega) (by simp) (by simp) _ rfl;simp only[show(0:Int).toNat=0 by rfl,List.drop_zero] at hx;simp (disch:=omega) only[oo,oop,oq,reduceCtorEq];repeat' first|with_reducible apply And.intro|intro _|rfl|omega|assumption|trivial|(exfalso;simp_all;done)
def vq56 (g:Gr) (W:List (List Int)) (M:List Nat) (S:List Slt) (V:List (List Int)) (F:List Int) (k:Int) (L:List (List Int)) (nd:Int) (i:Int) (G:GT) (R:RT):Prop:=let yy0:=(laidR (wlayF (Pr.mk g W (Nt (Mi M))).M F (S.getD k.toNat tS.dflt).snd.snd (V.getD i.toNat tI.sl.dflt) F));let yy1:=(downN (Pr.mk g W (Nt (Mi M))).M V (List.drop (IntKind.i64.wrap (k+1)).toNat S) (List.take yy0.fst.length (List.drop 0 yy0.fst)) L nd);let yy3:=(Pr.mk g W (Nt (Mi M)));let yy4:=(S.getD k.toNat tS.dflt);let yy5:=(Row.box 73 (gG g [sL tI.sl W,sL tU (Mi M)]));let yy6:=(D.tup [o0 1 L.length,vi nd],[none],[Row.data 27 tI.sl L]);(decide (i<V.length)=true→(decide (nd≤(4000:Int))=true→0≤k∧k<S.length∧0≤i∧i<V.length∧cP 148 [] [D.agg (gG yy3.g [sL tI.sl yy3.W,sL tU (Mi yy3.M)]),sL tI F,D.agg [vi yy4.fst,vb yy4.snd.fst,sL tI yy4.snd.snd],sL tI (V.getD i.toNat tI.sl.dflt)] (D.tup [o0 0 yy0.fst.length,vb yy0.snd]) [] [Row.data 3 tI yy0.fst]∧gS g yy3.g (W=yy3.W∧Mi M=Mi yy3.M∧F=F∧vE yy4.fst yy4.fst∧Value.bool yy4.snd.fst=Value.bool yy4.snd.fst∧yy4.snd.snd=yy4.snd.snd∧V.getD i.toNat tI.sl.dflt=V.getD i.toNat tI.sl.dflt∧(yy0.snd=true→cP 133 [Row.data 27 tI.sl L] [D.agg (gG yy3.g [sL tI.sl yy3.W,sL tU (Mi yy3.M)]),sL tS S,sL tI.sl V,vi (IntKind.i64.wrap (k+1)),sL tI (List.take yy0.fst.length (List.drop 0 yy0.fst)),o0 0 L.length,vi nd] (D.tup [o0 1 yy1.fst.length,vi yy1.snd]) [none] [Row.data 27 tI.sl yy1.fst]∧gS g yy3.g (W=yy3.W∧Mi M=Mi yy3.M∧S=S∧V=V∧vE (IntKind.i64.wrap (k+1)) (IntKind.i64.wrap (k+1))∧List.take yy0.fst.length (List.drop 0 yy0.fst)=List.take yy0.fst.length (List.drop 0 yy0.fst)∧1=1∧0=0∧L.length=L.length∧vE nd nd∧some (Row.data 27 tI.sl L)=some (Row.data 27 tI.sl L)∧sK r133 0∧G 0 (stOf 69 [1,2,3,4,5,6,7,16] [sL tS S,sL tI.sl V,vi k,sL tI F,o0 1 yy1.fst.length,vi yy1.snd,D.ptr 2 0 0,vi (IntKind.i64.wrap (i+1))] [Slot.dead,lD 27 tI.sl (List.take yy1.fst.length (List.drop 0 yy1.fst)),Slot.live yy5])))∧(yy0.snd=false→sK r133 0∧G 0 (stOf 69 [1,2,3,4,5,6,7,16] [sL tS S,sL tI.sl V,vi k,sL tI F,o0 1 L.length,vi nd,D.ptr 2 0 0,vi (IntKind.i64.wrap (i+1))] [Slot.dead,lD 27 tI.sl (List.take L.length (List.drop 0 L)),Slot.live yy5]))))∧(decide (nd≤(4000:Int))=false→R yy6))∧(decide (i<V.length)=false→false=false∧R yy6)
theorem e133_1 (g:Gr) (W:List (List Int)) (M:List Nat) (S:List Slt) (V:List (List Int)) (F:List Int) (k:Int) (hM:Smalls M) (hm:M.length≤300) (hV:V.length≤1000) (hv:∀v∈V,v.length≤32) (hS:S.length≤900) (hC:∀s∈S,∀c∈s.2.2,0≤c∧c<M.length) (hF:F.length=M.length) (k0:0≤k) (hk:k<S.length) (hrec:∀(G:List Int) (L:List (List Int)) (nd:Int),G.length=M.length→0≤nd→nd≤4000→(L.length:Int)≤nd→Con Tryd.prog 133 [.data 27 WT L] [.agg (gG g [slW W,slU M]),slS S,slW V,vi (k+1),slI G,o0 0 L.length,vi nd] (.tup [o0 1 (downN M V (S.drop (k+1).toNat) G L nd).1.length,vi (downN M V (S.drop (k+1).toNat) G L nd).2]) [none] [.data 27 WT (downN M V (S.drop (k+1).toNat) G L nd).1]) (C:List Int) (hs:(S.getD k.toNat (0,false,[])).2.2=C) (z:Nat):∀(i nd:Int) (L:List (List Int)),0≤i→i+z=V.length→0≤nd→nd≤4001→(L.length:Int)≤nd→∀r,r=loopD (downF M V (S.drop (k+1).toNat)) M C F (V.drop i.toNat) (L,nd)→GetsK Tryd.prog Tryd.f133.results.toList [none,none] (KK r133) 1 (.tup [o0 1 r.1.length,vi r.2],[none],[.data 27 WT r.1]) 0 (stOf 69 [1,2,3,4,5,6,7,16] [slS S,slW V,vi k,slI F,o0 1 L.length,vi nd,.ptr 2 0 0,vi i] [.dead,lD 27 WT L,lB 73 (gG g [slW W,slU M])]):=by
 have hk1:IntKind.i64.wrap (k+1)=k+1:=wrG (by omega) (by omega);induction z with
 |zero=>
  intro i nd L i0 hi n0 n1 hL r hr;rw[show V.drop i.toNat=[] from List.drop_eq_nil_of_le (by omega)] at hr;have hr:r=(L,nd):=hr;subst hr;refine gets_vc spY (fun _=> [1,2,3,4,5,6,7,16]) (fun k=>if k=0 then [⟨1000000005,27,WT⟩] else []) 400 (.fork (.fork (.fork (.hd 0) (.hd 0)) .stop) (.f .stop)) (V:=vq56 g W M S V F k L nd i) hmG (fun G R=>by kernel_rfl) ?_;unfold vq56;try dsimp only
  have w:decide (i< (V.length:Int))=false:=decide_eq_false (by omega);simp only[w];simp (disch:=omega) only[oo,oop,oq,reduceCtorEq];repeat' first|with_reducible apply And.intro|intro _|rfl|omega|assumption|trivial|(exfalso;simp_all;done)
 |succ z ih=>
  intro i nd L i0 hi n0 n1 hL r hr;have hi1:IntKind.i64.wrap (i+1)=i+1:=wrG (by omega) (by omega);have hvw:=hv _ (getD_in (d:=[]) (k:=i.toNat) (l:=V) (by omega));have hcs:=hC _ (getD_in (d:=(0,false,[])) (k:=k.toNat) (l:=S) (by omega));rw[hs] at hcs;rw[drop_at (xs:=V) (i:=i) [] i0 (by omega)] at hr;obtain⟨v,hvv⟩:∃v,V.getD i.toNat []=v:=⟨_,rfl⟩;rw[hvv] at hr hvw;have c148:=d148 g W M F C v (S.getD k.toNat (0,false,[])).1 (S.getD k.toNat (0,false,[])).2.1 hM hF hm hvw hcs;simp only[loopD] at hr;refine gets_vc spY (fun _=> [1,2,3,4,5,6,7,16]) (fun k=>if k=0 then [⟨1000000005,27,WT⟩] else []) 400 (.fork (.fork (.fork (.hd 0) (.hd 0)) .stop) (.f .stop)) (V:=vq56 g W M S V F k L nd i) hmG (fun G R=>by kernel_rfl) ?_;unfold vq56;try dsimp only
  simp only[Ty.dflt,hk1,hi1,hs,hvv,zz,Mi_take];by_cases hn:nd≤4000
  ·rw[if_pos hn] at hr;have w:decide (nd≤(4000:Int))=true:=decide_eq_true hn;cases e:wlayF M F C v F with
   |none=>
    rw[e] at hr c148;have hg:=ih (i+1) nd L (by omega) (by omega) n0 n1 hL r hr;simp only[laidR] at c148;simp only[w,laidR];simp (disch:=omega) only[oo,oop,oq,reduceCtorEq];repeat' first|with_reducible apply And.intro|intro _|rfl|omega|assumption|trivial|exact room3 (by omega)|exact roomW (by omega)|(exfalso;simp_all;done)
   |some G=>
    rw[e] at hr c148;have hGl:G.length=M.length:=by rw[wlay_len2 e];exact hF
    have c133:=hrec G L nd hGl n0 hn hL;have hle:=down_le M V (S.drop (k+1).toNat) G (L,nd) n0 hn hL;unfold downN at c133;obtain⟨q,hq⟩:∃q,downF M V (S.drop (k+1).toNat) G (L,nd)=q:=⟨_,rfl⟩;simp only[hq] at hr c133 hle;have hg:=ih (i+1) q.2 q.1 (by omega) (by omega) (by omega) hle.2.1 hle.2.2 r hr;simp only[laidR] at c148;simp only[w,laidR,downN,List.take_length,hq];simp (disch:=omega) only[oo,oop,oq,reduceCtorEq];repeat' first|with_reducible apply And.intro|intro _|rfl|omega|assumption|trivial|exact room3 (by omega)|exact roomW (by omega)|(exfalso;simp_all;done)
  ·rw[if_neg hn] at hr;subst hr;have w:decide (nd≤(4000:Int))=false:=decide_eq_false hn;simp only[w];simp (disch:=omega) only[oo,oop,oq,reduceCtorEq];repeat' first|with_reducible apply And.intro|intro _|rfl|omega|assumption|trivial|exact room3 (by omega)|exact roomW (by omega)|(exfalso;simp_all;done)
def vq57 (g:Gr) (W:List (List Int)) (M:List Nat) (S:List Slt) (V:List (List Int)) (F:List Int) (k:Int) (L:List (List Int)) (nd:Int) (i:Int) (G:GT) (R:RT):Prop:=let yy0:=(laidR (wlayF (Pr.mk g W (Nt (Mi M))).M F (S.getD k.toNat tS.dflt).snd.snd (V.getD i.toNat tI.sl.dflt) F));let yy1:=(downN (Pr.mk g W (Nt (Mi M))).M V (List.drop (IntKind.i64.wrap (k+1)).toNat S) (List.take yy0.fst.length (List.drop 0 yy0.fst)) L nd);let yy3:=(Pr.mk g W (Nt (Mi M)));let yy4:=(S.getD k.toNat tS.dflt);let yy5:=(Row.box 73 (gG g [sL tI.sl W,sL tU (Mi M)]));let yy6:=(Value.int .i64 nd);(decide (i<V.length)=true→(decide (nd≤(4000:Int))=true→0≤k∧k<S.length∧0≤i∧i<V.length∧cP 148 [] [D.agg (gG yy3.g [sL tI.sl yy3.W,sL tU (Mi yy3.M)]),sL tI F,D.agg [vi yy4.fst,vb yy4.snd.fst,sL tI yy4.snd.snd],sL tI (V.getD i.toNat tI.sl.dflt)] (D.tup [o0 0 yy0.fst.length,vb yy0.snd]) [] [Row.data 3 tI yy0.fst]∧gS g yy3.g (W=yy3.W∧Mi M=Mi yy3.M∧F=F∧vE yy4.fst yy4.fst∧Value.bool yy4.snd.fst=Value.bool yy4.snd.fst∧yy4.snd.snd=yy4.snd.snd∧V.getD i.toNat tI.sl.dflt=V.getD i.toNat tI.sl.dflt∧(yy0.snd=true→cP 133 [Row.data 27 tI.sl L] [D.agg (gG yy3.g [sL tI.sl yy3.W,sL tU (Mi yy3.M)]),sL tS S,sL tI.sl V,vi (IntKind.i64.wrap (k+1)),sL tI (List.take yy0.fst.length (List.drop 0 yy0.fst)),o0 0 L.length,D.v yy6] (D.tup [o0 1 yy1.fst.length,vi yy1.snd]) [none] [Row.data 27 tI.sl yy1.fst]∧gS g yy3.g (W=yy3.W∧Mi M=Mi yy3.M∧S=S∧V=V∧vE (IntKind.i64.wrap (k+1)) (IntKind.i64.wrap (k+1))∧List.take yy0.fst.length (List.drop 0 yy0.fst)=List.take yy0.fst.length (List.drop 0 yy0.fst)∧0=0∧0=0∧L.length=L.length∧vE nd nd∧some (Row.data 27 tI.sl L)=some (Row.data 27 tI.sl L)∧sK r133 0∧G 0 (stOf 69 [1,2,3,4,5,6,7,16] [sL tS S,sL tI.sl V,vi k,sL tI F,o0 0 yy1.fst.length,vi yy1.snd,D.ptr 1 0 0,vi (IntKind.i64.wrap (i+1))] [lD 27 tI.sl (List.take yy1.fst.length (List.drop 0 yy1.fst)),Slot.live yy5])))∧(yy0.snd=false→sK r133 0∧G 0 (stOf 69 [1,2,3,4,5,6,7,16] [sL tS S,sL tI.sl V,vi k,sL tI F,o0 0 L.length,D.v yy6,D.ptr 1 0 0,vi (IntKind.i64.wrap (i+1))] [lD 27 tI.sl (List.take L.length (List.drop 0 L)),Slot.live yy5]))))∧(decide (nd≤(4000:Int))=false→R (D.tup [o0 0 L.length,D.v yy6],[],[Row.data 27 tI.sl L])))∧(decide (i<V.length)=false→false=false∧R (D.tup [o0 0 L.length,D.v yy6],[],[Row.data 27 tI.sl L]))
theorem e133_0 (g:Gr) (W:List (List Int)) (M:List Nat) (S:List Slt) (V:List (List Int)) (F:List Int) (k:Int) (hM:Smalls M) (hm:M.length≤300) (hV:V.length≤1000) (hv:∀v∈V,v.length≤32) (hS:S.length≤900) (hC:∀s∈S,∀c∈s.2.2,0≤c∧c<M.length) (hF:F.length=M.length) (k0:0≤k) (hk:k<S.length) (hrec:∀(G:List Int) (L:List (List Int)) (nd:Int),G.length=M.length→0≤nd→nd≤4000→(L.length:Int)≤nd→Con Tryd.prog 133 [.data 27 WT L] [.agg (gG g [slW W,slU M]),slS S,slW V,vi (k+1),slI G,o0 0 L.length,vi nd] (.tup [o0 1 (downN M V (S.drop (k+1).toNat) G L nd).1.length,vi (downN M V (S.drop (k+1).toNat) G L nd).2]) [none] [.data 27 WT (downN M V (S.drop (k+1).toNat) G L nd).1]) (C:List Int) (hs:(S.getD k.toNat (0,false,[])).2.2=C) (z:Nat):∀(i nd:Int) (L:List (List Int)),0≤i→i+z=V.length→0≤nd→nd≤4001→(L.length:Int)≤nd→∀r,r=loopD (downF M V (S.drop (k+1).toNat)) M C F (V.drop i.toNat) (L,nd)→GetsK Tryd.prog Tryd.f133.results.toList [none,none] (KK r133) 0 (.tup [o0 0 r.1.length,vi r.2],[],[.data 27 WT r.1]) 0 (stOf 69 [1,2,3,4,5,6,7,16] [slS S,slW V,vi k,slI F,o0 0 L.length,vi nd,.ptr 1 0 0,vi i] [lD 27 WT L,lB 73 (gG g [slW W,slU M])]):=by
 have hk1:IntKind.i64.wrap (k+1)=k+1:=wrG (by omega) (by omega);induction z with
 |zero=>
  intro i nd L i0 hi n0 n1 hL r hr;rw[show V.drop i.toNat=[] from List.drop_eq_nil_of_le (by omega)] at hr;have hr:r=(L,nd):=hr;subst hr;refine gets_vc spY (fun _=> [1,2,3,4,5,6,7,16]) (fun k=>if k=0 then [⟨1000000005,27,WT⟩] else []) 400 (.fork (.fork (.fork (.hd 0) (.hd 0)) .stop) (.f .stop)) (V:=vq57 g W M S V F k L nd i) hmG (fun G R=>by kernel_rfl) ?_;unfold vq57;try dsimp only
  have w:decide (i< (V.length:Int))=false:=decide_eq_false (by omega);simp only[w];simp (disch:=omega) only[oo,oop,oq,reduceCtorEq];repeat' first|with_reducible apply And.intro|intro _|rfl|omega|assumption|trivial|(exfalso;simp_all;done)
 |succ z ih=>
  intro i nd L i0 hi n0 n1 hL r hr;have hi1:IntKind.i64.wrap (i+1)=i+1:=wrG (by omega) (by omega);have hvw:=hv _ (getD_in (d:=[]) (k:=i.toNat) (l:=V) (by omega));have hcs:=hC _ (getD_in (d:=(0,false,[])) (k:=k.toNat) (l:=S) (by omega));rw[hs] at hcs;rw[drop_at (xs:=V) (i:=i) [] i0 (by omega)] at hr;obtain⟨v,hvv⟩:∃v,V.getD i.toNat []=v:=⟨_,rfl⟩;rw[hvv] at hr hvw;have c148:=d148 g W M F C v (S.getD k.toNat (0,false,[])).1 (S.getD k.toNat (0,false,[])).2.1 hM hF hm hvw hcs;simp only[loopD] at hr;refine gets_vc spY (fun _=> [1,2,3,4,5,6,7,16]) (fun k=>if k=0 then [⟨1000000005,27,WT⟩] else []) 400 (.fork (.fork (.fork (.hd 0) (.hd 0)) .stop) (.f .stop)) (V:=vq57 g W M S V F k L nd i) hmG (fun G R=>by kernel_rfl) ?_;unfold vq57;try dsimp only
  simp only[Ty.dflt,hk1,hi1,hs,hvv,zz,Mi_take];by_cases hn:nd≤4000
  ·rw[if_pos hn] at hr;have w:decide (nd≤(4000:Int))=true:=decide_eq_true hn;cases e:wlayF M F C v F with
   |none=>
    rw[e] at hr c148;have hg:=ih (i+1) nd L (by omega) (by omega) n0 n1 hL r hr;simp only[laidR] at c148;simp only[w,laidR];simp (disch:=omega) only[oo,oop,oq,reduceCtorEq];repeat' first|with_reducible apply And.intro|intro _|rfl|omega|assumption|trivial|exact room3 (by omega)|exact roomW (by omega)|(exfalso;simp_all;done)
   |some G=>
    rw[e] at hr c148;have hGl:G.length=M.length:=by rw[wlay_len2 e];exact hF
    have c133:=hrec G L nd hGl n0 hn hL;have hle:=down_le M V (S.drop (k+1).toNat) G (L,nd) n0 hn hL;unfold downN at c133;obtain⟨q,hq⟩:∃q,downF M V (S.drop (k+1).toNat) G (L,nd)=q:=⟨_,rfl⟩;simp only[hq] at hr c133 hle;have hg:=ih (i+1) q.2 q.1 (by omega) (by omega) (by omega) hle.2.1 hle.2.2 r hr;simp only[laidR] at c148;simp only[w,laidR,downN,List.take_length,hq];simp (disch:=omega) only[oo,oop,oq,reduceCtorEq];repeat' first|with_reducible apply And.intro|intro _|rfl|omega|assumption|trivial|exact room3 (by omega)|exact roomW (by omega)|(exfalso;simp_all;done)
  ·rw[if_neg hn] at hr;subst hr;have w:decide (nd≤(4000:Int))=false:=decide_eq_false hn;simp only[w];simp (disch:=omega) only[oo,oop,oq,reduceCtorEq];repeat' first|with_reducible apply And.intro|intro _|rfl|omega|assumption|trivial|exact room3 (by omega)|exact roomW (by omega)|(exfalso;simp_all;done)
def vq58 (g:Gr) (W:List (List Int)) (M:List Nat) (S:List Slt) (V:List (List Int)) (F:List Int) (k:Int) (L:List (List Int)) (nd:Int) (G:GT) (R:RT):Prop:=((k==(↑S.length:Int))=true→rM 27 (L.length+1)∧R (D.tup [o0 1 (L.length+1),vi (IntKind.i64.wrap (nd+1))],[none],[Row.data 27 tI.sl (List.take L.length (List.drop 0 L)++List.take 1 (List.drop 0 [F]))]))∧((k==(↑S.length:Int))=false→sK r133 0∧G 0 (stOf 69 [1,2,3,4,5,6,7,16] [sL tS S,sL tI.sl V,vi k,sL tI F,o0 1 L.length,vi (IntKind.i64.wrap (nd+1)),D.ptr 2 0 0,vi 0] [Slot.dead,lD 27 tI.sl (List.take L.length (List.drop 0 L)),lB 73 (gG g [sL tI.sl W,sL tU (Mi M)])]))
theorem d133 (g:Gr) (W:List (List Int)) (M:List Nat) (S:List Slt) (V:List (List Int)) (hM:Smalls M) (hm:M.length≤300) (hV:V.length≤1000) (hv:∀v∈V,v.length≤32) (hS:S.length≤900) (hC:∀s∈S,∀c∈s.2.2,0≤c∧c<M.length) (m:Nat):∀(F:List Int) (k:Int) (L:List (List Int)) (nd:Int),0≤k→k+m=S.length→F.length=M.length→0≤nd→nd≤4000→(L.length:Int)≤nd→Con Tryd.prog 133 [.data 27 WT L] [.agg (gG g [slW W,slU M]),slS S,slW V,vi k,slI F,o0 0 L.length,vi nd] (.tup [o0 1 (downN M V (S.drop k.toNat) F L nd).1.length,vi (downN M V (S.drop k.toNat) F L nd).2]) [none] [.data 27 WT (downN M V (S.drop k.toNat) F L nd).1]:=by
 induction m with
 |zero=>
  intro F k L nd k0 hk hF n0 n1 hL;have hn1:IntKind.i64.wrap (nd+1)=nd+1:=wrG (by omega) (by omega);rw[List.drop_eq_nil_of_le (by omega)];simp only[downN,downF,List.length_append,List.length_cons,List.length_nil];refine con_vc (how:=[none,none]) (c:=r133) (K:=(KK r133)) spY (fun _=> [1,2,3,4,5,6,7,16]) (fun k=>if k=0 then [⟨1000000005,27,WT⟩] else []) 400 (.fork .stop (.hd 0)) (V:=vq58 g W M S V F k L nd) hmG Tryd.func133 (by kernel_rfl) (by kernel_rfl) (fun G R=>by kernel_rfl) ?_;unfold vq58;try dsimp only
  try dsimp only
  have w:(k==(S.length:Int))=true:=by rw[beq_iff_eq];omega
  simp only[w,hn1,zz,Mi_take];simp (disch:=omega) only[oo,oop,oq,reduceCtorEq];repeat' first|with_reducible apply And.intro|intro _|rfl|omega|assumption|trivial|exact room3 (by omega)|exact roomW (by omega)|(exfalso;simp_all;done)
 |succ m ih=>
  intro F k L nd k0 hk hF n0 n1 hL;have hn1:IntKind.i64.wrap (nd+1)=nd+1:=wrG (by omega) (by omega);rw[drop_at (xs:=S) (i:=k) (0,false,[]) k0 (by omega)];obtain⟨r,hr⟩:∃r,downN M V (S.getD k.toNat (0,false,[])::S.drop (k+1).toNat) F L nd=r:=⟨_,rfl⟩;rw[hr];simp only[downN,downF] at hr;have hg:=e133_1 g W M S V F k hM hm hV hv hS hC hF k0 (by omega) (fun G L nd a b c d=>ih G (k+1) L nd (by omega) (by omega) a b c d) _ rfl V.length 0 (nd+1) L (by omega) (by omega) (by omega) (by omega) (by omega) r hr.symm;refine con_vc (how:=[none,none]) (c:=r133) (K:=(KK r133)) spY (fun _=> [1,2,3,4,5,6,7,16]) (fun k=>if k=0 then [⟨1000000005,27,WT⟩] else []) 400 (.fork .stop (.hd 0)) (V:=vq58 g W M S V F k L nd) hmG Tryd.func133 (by kernel_rfl) (by kernel_rfl) (fun G R=>by kernel_rfl) ?_;unfold vq58;try dsimp only
  try dsimp only
  have w:(k==(S.length:Int))=false:=by rw[beq_eq_false_iff_ne];omega
  simp only[w,hn1,zz,Mi_take];simp (disch:=omega) only[oo,oop,oq,reduceCtorEq];repeat' first|with_reducible apply And.intro|intro _|rfl|omega|assumption|trivial|exact room3 (by omega)|exact roomW (by omega)|(exfalso;simp_all;done)
def vq59 (g:Gr) (W:List (List Int)) (M:List Nat) (S:List Slt) (V:List (List Int)) (F:List Int) (k:Int) (nd:Int) (G:GT) (R:RT):Prop:=((k==(↑S.length:Int))=true→rM 27 1∧R (D.tup [o0 0 1,vi (IntKind.i64.wrap (nd+1))],[],[Row.data 27 tI.sl (List.take 1 (List.drop 0 [F]))]))∧((k==(↑S.length:Int))=false→sK r133 0∧G 0 (stOf 69 [1,2,3,4,5,6,7,16] [sL tS S,sL tI.sl V,vi k,sL tI F,o0 0 0,vi (IntKind.i64.wrap (nd+1)),D.ptr 1 0 0,vi 0] [lD 27 tI.sl [],lB 73 (gG g [sL tI.sl W,sL tU (Mi M)])]))
theorem d133n (g:Gr) (W:List (List Int)) (M:List Nat) (S:List Slt) (V:List (List Int)) (hM:Smalls M) (hm:M.length≤300) (hV:V.length≤1000) (hv:∀v∈V,v.length≤32) (hS:S.length≤900) (hC:∀s∈S,∀c∈s.2.2,0≤c∧c<M.length) (m:Nat):∀(F:List Int) (k:Int) (L:List (List Int)) (nd:Int),0≤k→k+m=S.length→F.length=M.length→0≤nd→nd≤4000→(L.length:Int)≤nd→Con Tryd.prog 133 [] [.agg (gG g [slW W,slU M]),slS S,slW V,vi k,slI F,.v (.slice none 0 0),vi nd] (.tup [o0 0 (downN M V (S.drop k.toNat) F [] nd).1.length,vi (downN M V (S.drop k.toNat) F [] nd).2]) [] [.data 27 WT (downN M V (S.drop k.toNat) F [] nd).1]:=by
 cases m with
 |zero=>
  intro F k L nd k0 hk hF n0 n1 hL;have hn1:IntKind.i64.wrap (nd+1)=nd+1:=wrG (by omega) (by omega);rw[List.drop_eq_nil_of_le (by omega)];simp only[downN,downF,List.length_append,List.length_cons,List.length_nil];refine con_vc (how:=[none,none]) (c:=r133) (K:=(KK r133)) spY (fun _=> [1,2,3,4,5,6,7,16]) (fun k=>if k=0 then [⟨1000000005,27,WT⟩] else []) 400 (.fork .stop (.hd 0)) (V:=vq59 g W M S V F k nd) hmG Tryd.func133 (by kernel_rfl) (by kernel_rfl) (fun G R=>by kernel_rfl) ?_;unfold vq59;try dsimp only
  try dsimp only
  have w:(k==(S.length:Int))=true:=by rw[beq_iff_eq];omega
  simp only[w,hn1,zz,Mi_take];simp (disch:=omega) only[oo,oop,oq,reduceCtorEq];repeat' first|with_reducible apply And.intro|intro _|rfl|omega|assumption|trivial|exact room3 (by omega)|exact roomW (by omega)|(exfalso;simp_all;done)
 |succ m=>
  intro F k L nd k0 hk hF n0 n1 hL;have hn1:IntKind.i64.wrap (nd+1)=nd+1:=wrG (by omega) (by omega);rw[drop_at (xs:=S) (i:=k) (0,false,[]) k0 (by omega)];obtain⟨r,hr⟩:∃r,downN M V (S.getD k.toNat (0,false,[])::S.drop (k+1).toNat) F [] nd=r:=⟨_,rfl⟩;rw[hr];simp only[downN,downF] at hr;have hg:=e133_0 g W M S V F k hM hm hV hv hS hC hF k0 (by omega) (fun G L nd a b c d=>d133 g W M S V hM hm hV hv hS hC m G (k+1) L nd (by omega) (by omega) a b c d) _ rfl V.length 0 (nd+1) [] (by omega) (by omega) (by omega) (by omega) (by simp;omega) r hr.symm;refine con_vc (how:=[none,none]) (c:=r133) (K:=(KK r133)) spY (fun _=> [1,2,3,4,5,6,7,16]) (fun k=>if k=0 then [⟨1000000005,27,WT⟩] else []) 400 (.fork .stop (.hd 0)) (V:=vq59 g W M S V F k nd) hmG Tryd.func133 (by kernel_rfl) (by kernel_rfl) (fun G R=>by kernel_rfl) ?_;unfold vq59;try dsimp only
  try dsimp only
  have w:(k==(S.length:Int))=false:=by rw[beq_eq_false_iff_ne];omega
  simp only[w,hn1,zz,Mi_take];simp (disch:=omega) only[oo,oop,oq,reduceCtorEq];repeat' first|with_reducible apply And.intro|intro _|rfl|omega|assumption|trivial|exact room3 (by omega)|exact roomW (by omega)|(exfalso;simp_all;done)
def vq60 (g:Gr) (W:List (List Int)) (M:List Nat) (i:Int) (Q:List Int) (G:GT) (R:RT):Prop:=let yy0:=(Pr.mk g W (Nt (Mi M)));let yy2:=(List.take Q.length (List.drop 0 Q));let yy3:=(List.drop 0 (slotsF g));(decide (i<Q.length)=true→0≤i∧i<Q.length∧0+i.toNat<Q.length∧sK r99 0∧G 0 (stOf 30 [1,4,5] [p0,D.own 1 0 Q.length (some Q.length),vi (IntKind.i64.wrap (i+1))] [lB 73 (gG g [sL tI.sl W,sL tU (Mi M)]),lD 3 tI (Q.set (0+i.toNat) (-1:Int))]))∧(decide (i<Q.length)=false→cP 38 [] [D.agg (gG g [])] (sL tS (slotsF g)) [] []∧gS g g (cP 134 [] [sL tI.sl W] (o0 0 (diffF [] W).length) [] [Row.data 27 tI.sl (diffF [] W)]∧W=W∧cP 133 [] [D.agg (gG yy0.g [sL tI.sl yy0.W,sL tU (Mi yy0.M)]),sL tS (slotsF g),sL tI.sl (List.take (diffF [] W).length (List.drop 0 (diffF [] W))),vi 0,sL tI yy2,nD,vi 0] (D.tup [o0 0 (downN yy0.M (List.take (diffF [] W).length (List.drop 0 (diffF [] W))) yy3 yy2 [] (0:Int)).fst.length,vi (downN yy0.M (List.take (diffF [] W).length (List.drop 0 (diffF [] W))) yy3 yy2 [] (0:Int)).snd]) [] [Row.data 27 tI.sl (downN yy0.M (List.take (diffF [] W).length (List.drop 0 (diffF [] W))) yy3 yy2 [] (0:Int)).fst]∧gS g yy0.g (W=yy0.W∧Mi M=Mi yy0.M∧slotsF g=slotsF g∧List.take (diffF [] W).length (List.drop 0 (diffF [] W))=List.take (diffF [] W).length (List.drop 0 (diffF [] W))∧vE (0:Int) (0:Int)∧List.take Q.length (List.drop 0 Q)=List.take Q.length (List.drop 0 Q)∧Value.slice none 0 0=Value.slice none 0 0∧vE (0:Int) (0:Int)∧R (D.tup [o0 0 (downN yy0.M (List.take (diffF [] W).length (List.drop 0 (diffF [] W))) yy3 yy2 [] (0:Int)).fst.length,vi (downN yy0.M (List.take (diffF [] W).length (List.drop 0 (diffF [] W))) yy3 yy2 [] (0:Int)).snd],[],[Row.data 27 tI.sl (downN yy0.M (List.take (diffF [] W).length (List.drop 0 (diffF [] W))) yy3 yy2 [] (0:Int)).fst]))))
theorem e99R (g:Gr) (W:List (List Int)) (M:List Nat) (hM:Smalls M) (hc:checkP ⟨g,W,M⟩=0) (z:Nat):∀(i:Int) (Q:List Int),0≤i→i+z=M.length→Q.length=M.length→(∀j:Nat,j<i.toNat→Q.getD j 0= -1)→GetsK Tryd.prog Tryd.f99.results.toList [none,none] (KK r99) 0 (.tup [o0 0 (smallF ⟨g,W,M⟩).1.length,vi (smallF ⟨g,W,M⟩).2],[],[.data 27 WT (smallF ⟨g,W,M⟩).1]) 0 (stOf 30 [1,4,5] [.ptr 0 0 0,.own 1 0 Q.length (some Q.length),vi i] [lB 73 (gG g [slW W,slU M]),lD 3 (.int .i64) Q]):=by
 induction z with
 |zero=>
  intro i Q i0 hi hQ hq;have e:Q=List.replicate M.length (-1):=by
   apply List.ext_getElem (by simp[hQ]);intro j h1 h2;have:=hq j (by omega);rw[gE,gQ h1] at this;simp only[Option.getD_some] at this;rw[this,List.getElem_replicate]
  obtain⟨h1,h2,h3,h4⟩:=checkP_zero hc;simp only at h1 h2 h3 h4;have hm:=(right_fits hc hM).2.1;have c38:=d100s g;have c134:=d134 W (by omega) (fun s h=>(h3 s h).2.1);have hD:∀v∈diffF [] W,v∈W:=fun v h=>by
   rcases diff_sub W [] v h with h|h
   ·simp at h
   ·exact h
  have hDl:=diff_len W [];simp only[List.length_nil] at hDl;have c133:=d133n g W M (slotsF g) (diffF [] W) hM hm (by omega) (fun v h=>(h3 v (hD v h)).2.1) (by have:=slots_900 h1;omega) (fun s hs c h=>by have:=cells_in hc hs c h;simp only at this;omega) (slotsF g).length Q 0 [] 0 (by omega) (by omega) hQ (by omega) (by omega) (by simp);simp only[show(0:Int).toNat=0 by rfl,List.drop_zero] at c133;have es:downN M (diffF [] W) (slotsF g) Q [] 0=smallF ⟨g,W,M⟩:=by unfold downN smallF;rw[e]
  rw[es] at c133;refine gets_vc spY (fun _=> [1,4,5]) (fun _=> []) 400 (.fork (.hd 0) .stop) (V:=vq60 g W M i Q) hmG (fun G R=>by kernel_rfl) ?_;unfold vq60;try dsimp only
  have w:decide (i< (Q.length:Int))=false:=decide_eq_false (by omega);simp only[w,zz,Mi_take,es];simp (disch:=omega) only[oo,oop,oq,reduceCtorEq];repeat' first|with_reducible apply And.intro|intro _|rfl|omega|assumption|trivial|(exfalso;simp_all;done)
 |succ z ih=>
  intro i Q i0 hi hQ hq;have hm:=(right_fits hc hM).2.1;have hi1:IntKind.i64.wrap (i+1)=i+1:=wrG (by omega) (by omega);have hg:=ih (i+1) (Q.set i.toNat (-1)) (by omega) (by omega) (by rw[List.length_set];exact hQ) (fun j hj=>by
   rw[getD_setI];split
   ·rfl
   ·rename_i h;exact hq j (by omega))
  rw[List.length_set] at hg;refine gets_vc spY (fun _=> [1,4,5]) (fun _=> []) 400 (.fork (.hd 0) .stop) (V:=vq60 g W M i Q) hmG (fun G R=>by kernel_rfl) ?_;unfold vq60;try dsimp only
  have w:decide (i< (Q.length:Int))=true:=decide_eq_true (by omega);simp only[w,hi1,zz,Mi_take];simp (disch:=omega) only[oo,oop,oq,reduceCtorEq];repeat' first|with_reducible apply And.intro|intro _|rfl|omega|assumption|trivial|(exfalso;simp_all;done)
theorem d99R (g:Gr) (W:List (List Int)) (M:List Nat) (hM:Smalls M) (hc:checkP ⟨g,W,M⟩=0):Con Tryd.prog 99 [] [.agg (gG g [slW W,slU M])] (.tup [o0 0 (smallF ⟨g,W,M⟩).1.length,vi (smallF ⟨g,W,M⟩).2]) [] [.data 27 WT (smallF ⟨g,W,M⟩).1]:=by
 refine con_vc (how:=[none,none]) (c:=r99) (K:=(KK r99)) spY (fun _=> [1,4,5]) (fun _=> []) 400 (.hd 0) (V:=fun G R=>let yy0:=(↑(Mi M).length:Int);(0:Int)≤yy0∧yy0≤yy0∧yy0≤(9223372036854775807:Int)∧yy0.toNat*8≤281474976710656∧sK r99 0∧G 0 (stOf 30 [1,4,5] [p0,D.own 1 0 yy0.toNat (some yy0.toNat),vi 0] [lB 73 (gG g [sL tI.sl W,sL tU (Mi M)]),lD 3 tI (List.replicate yy0.toNat (0:Int))])) hmG Tryd.func99 (by kernel_rfl) (by kernel_rfl) (fun G R=>by kernel_rfl) ?_
 try dsimp only
 try dsimp only
 have hm:=(right_fits hc hM).2.1;have hg:=e99R g W M hM hc M.length 0 (List.replicate M.length 0) (by omega) (by omega) (by simp) (fun j hj=>by simp at hj);rw[List.length_replicate] at hg;simp only[zz,Mi_take];simp (disch:=omega) only[oo,oop,oq,reduceCtorEq];repeat' first|with_reducible apply And.intro|intro _|rfl|omega|assumption|trivial|(exfalso;simp_all;done)
theorem d61R (g:Gr) (W:List (List Int)) (M:List Nat) (hM:Smalls M) (hc:checkP ⟨g,W,M⟩=0):Con Tryd.prog 61 [] [.agg (gG g [slW W,slU M])] (.tup [o0 0 (smallF ⟨g,W,M⟩).1.length,vb (decide ((smallF ⟨g,W,M⟩).2≤4000))]) [] [.data 27 WT (smallF ⟨g,W,M⟩).1]:=by
 refine con_vc (how:=[none,none]) (c:=r61) (K:=(KK r61)) spY (fun _=> []) (fun _=> []) 400 .stop (V:=fun G R=>let yy0:=(Pr.mk g W (Nt (Mi M)));cP 99 [] [D.agg (gG yy0.g [sL tI.sl yy0.W,sL tU (Mi yy0.M)])] (D.tup [o0 0 (smallF yy0).fst.length,vi (smallF yy0).snd]) [] [Row.data 27 tI.sl (smallF yy0).fst]∧gS g yy0.g (W=yy0.W∧Mi M=Mi yy0.M∧R (D.tup [o0 0 (smallF yy0).fst.length,vb (decide ((smallF yy0).snd≤(4000:Int)))],[],[Row.data 27 tI.sl (smallF yy0).fst]))) hmG Tryd.func61 (by kernel_rfl) (by kernel_rfl) (fun G R=>by kernel_rfl) ?_
 try dsimp only
 try dsimp only
 have c99:=d99R g W M hM hc;simp only[Nt_Mi];simp (disch:=omega) only[oo,oop,oq,reduceCtorEq];repeat' first|with_reducible apply And.intro|intro _|rfl|omega|assumption|trivial|(exfalso;simp_all;done)
theorem con_lenT {P:Program} {f:FuncId} {args:List D} {n:Nat} {cap:Option Nat} {allocs:List Row} {x:Value} (h:Con P f [] args (.tup [.own 0 0 n cap,.v x]) [] allocs):Con P f [] args (.tup [.lenv n,.v x]) [] []:=by
 refine⟨h.fn,fun w ρ S vs M hargs=>(h.run w ρ S vs M hargs).mono ?_⟩;rintro ex w' ⟨v,ρ',S',h1,h2,h3⟩
 have hp:=mem_pack h2 (n:=0) rfl (ids:=[]) (ds:=[]) rfl;simp only[RelD] at h3;obtain⟨us,hv,h4⟩:=h3;simp only[RelDs] at h4;obtain⟨u1,us1,rfl,hu1,u2,us2,rfl,hu2,rfl⟩:=h4;obtain⟨A,c,e⟩:=lenD_rel (d:= .own 0 0 n cap) rfl hu1;refine⟨v,fun k=>ρ' (([]:List Nat).getD k 0),S',h1,hp,?_⟩;simp only[RelD,RelDs] at hu2⊢;exact⟨_,hv,u1,_,rfl,⟨A,c,e⟩,u2,_,rfl,hu2,rfl⟩
def g1:Gr:=⟨2,2,[false,false,false,false],[false,false,false,false],[false,false,false,false]⟩
def p1:Pr:=⟨g1,[[0,1],[2,3]],[15,15,15,15]⟩
theorem nar1:checkP p1=0∧(spreadG p1 [] []).2=false∧checkR p1 [[]]=(0,0)∧checkR p1 []=(0,151):=by
 refine⟨?_,?_,?_,?_⟩<;>kernel_rfl
abbrev prC (p:Pr):List D:=(gG p.g [slW p.W,slU p.M])
abbrev seaR (b:Nat) (d:D) (p:Pr) (n:Int):Row:= .box 129 (.fn 97 [.ptr b 0 0]::vb true::d::(prC p++[vi n]))
abbrev nilD:D:= .v (.slice none 0 0)
def spU:Sp:=fun f args rd=>match f,args with
 |147,[.v (.slice none 0 0)]=>some {f:=147,args:=[nilD],val:=nilD}
 |96,[.agg [.v (.int _ h),.v (.int _ w),b,r,l,ws,ms]]=>withP rd h w b r l ws ms fun p ls=>some {f:=96,args:=[p.d],val:= .ptr 0 0 0,allocs:=[.box 129 (.v .nilFunc:: .v (.bool false)::nilD::(prC p++[.v (.int .i64 0)]))],lent:=ls}
 |128,[.ptr a _ _,.v (.slice none 0 0)]=>match rd a with
  |some (.box _ [.fn 97 [.ptr q _ _],.v (.bool true),.v (.slice none 0 0),.v (.int _ h),.v (.int _ w),b,r,l,ws,ms,.v (.int _ n)])=>withP rd h w b r l ws ms fun p ls=>some {f:=128,args:=[.ptr 0 0 0,nilD],pre:=[seaR 1 nilD p n,.box 4 [.v (.bool false)]],val:= .tup [],post:=[some (seaR 1 (.own 2 0 1 none) p n),some (.box 4 [.v (.bool false)])],allocs:=[.data 90 BT [[]]],cap:=[a,q]}
  |_=>none
 |127,[.v (.slice none 0 0),.ptr a _ _,.ptr d _ _]=>match rd a with
  |some (.box _ [.ptr s _ _])=>match rd s with
   |some (.box _ [.fn 97 [.ptr q _ _],.v (.bool true),.v (.slice none 0 0),.v (.int _ h),.v (.int _ w),b,r,l,ws,ms,.v (.int _ n)])=>withP rd h w b r l ws ms fun p ls=>some {f:=127,args:=[nilD,.ptr 0 0 0,.ptr 1 0 0],pre:=[.box 125 [.ptr 2 0 0],.box 159 [.fn 127 [.ptr 0 0 0,.ptr 1 0 0]],seaR 3 nilD p 0,.box 4 [.v (.bool false)]],val:= .v (.int .i64 0),post:=[some (.box 125 [.ptr 2 0 0]),some (.box 159 [.fn 127 [.ptr 0 0 0,.ptr 1 0 0]]),some (seaR 3 (.own 4 0 1 none) p 1),some (.box 4 [.v (.bool false)])],allocs:=[.data 90 BT [[]]],cap:=[a,d,s,q]}
   |_=>none
  |_=>none
 |98,[.ptr s _ _]=>match rd s with
  |some (.box _ [.fn 97 [.ptr q _ _],.v (.bool true),.v (.slice none 0 0),.v (.int _ h),.v (.int _ w),b,r,l,ws,ms,.v (.int _ n)])=>withP rd h w b r l ws ms fun p ls=>some {f:=98,args:=[.ptr 0 0 0],pre:=[seaR 1 nilD p 0,.box 4 [.v (.bool false)]],val:= .v (.bool true),post:=[some (seaR 1 (.own 2 0 1 none) p 1),some (.box 4 [.v (.bool false)])],allocs:=[.data 90 BT [[]]],cap:=[s,q]}
  |_=>none
 |59,[.agg [.v (.int _ h),.v (.int _ w),b,r,l,ws,ms]]=>withP rd h w b r l ws ms fun p ls=>some {f:=59,args:=[p.d],val:= .tup [.own 0 0 1 none,.v (.int .i64 0)],allocs:=[.data 90 BT [[]]],lent:=ls}
 |f,args=>spT5 f args rd
abbrev kP:NK:=⟨90,.sl SeT,0,92,SeT⟩
def spV:Sp:=fun f args rd=>if f=2000014 then some {f:=0,args:=[],val:= .top,nk:=some kW} else if f=2000020 then some {f:=0,args:=[],val:= .top,nk:=some kP} else if f=59 then(match args with
 | [.agg [.v (.int _ h),.v (.int _ w),b,r,l,ws,ms]]=>withP rd h w b r l ws ms fun p ls=>some {f:=59,args:=[p.d],val:= .tup [.lenv 1,.v (.int .i64 0)],lent:=ls}
 |_=>none) else spU f args rd
noncomputable def r59:=bd Tryd.f59
noncomputable def r96:=bd Tryd.f96
noncomputable def r98:=bd Tryd.f98
noncomputable def r127:=bd Tryd.f127
noncomputable def r128:=bd Tryd.f128
noncomputable def r147:=bd Tryd.f147
theorem d147R:Con Tryd.prog 147 [] [.v (.slice none 0 0)] (.v (.slice none 0 0)) [] []:=by
 refine con_vc (how:=[none]) (c:=r147) (K:=(KK r147)) spU (fun _=> []) (fun _=> []) 400 (.fork .stop .stop) (V:=fun G R=>(true=true→R (nD,[],[]))∧(true=false→rM 92 0∧R (o0 0 0,[],[Row.data 92 tQ (List.take 0 (List.drop 0 [])++[])]))) hmG Tryd.func147 (by kernel_rfl) (by kernel_rfl) (fun G R=>by kernel_rfl) ?_;try dsimp only
 repeat' first|with_reducible apply And.intro|intro _|rfl|omega|assumption|trivial|exact room90 (by omega)|exact c1|exact c2|exact c3|(exfalso;simp_all;done)
theorem d96R (g:Gr) (W:List (List Int)) (M:List Nat):Con Tryd.prog 96 [] [.agg (gG g [slW W,slU M])] (.ptr 0 0 0) [] [.box 129 (.v .nilFunc::vb false::nilD::(prC ⟨g,W,M⟩++[vi 0]))]:=by
 refine con_vc (how:=[none]) (c:=r96) (K:=(KK r96)) spU (fun _=> []) (fun _=> []) 400 .stop (V:=fun G R=>R (p0,[],[Row.box 129 [D.v Value.nilFunc,vb false,nD,vi g.h,vi g.w,sL tB g.B,sL tB g.R,sL tB g.L,sL tI.sl W,sL tU (Mi M),vi 0]])) hmG Tryd.func96 (by kernel_rfl) (by kernel_rfl) (fun G R=>by kernel_rfl) ?_;try dsimp only
 repeat' first|with_reducible apply And.intro|intro _|rfl|omega|assumption|trivial|exact room90 (by omega)|exact c1|exact c2|exact c3|(exfalso;simp_all;done)
theorem d128R (g:Gr) (W:List (List Int)) (M:List Nat) (n:Int):Con Tryd.prog 128 [seaR 1 nilD ⟨g,W,M⟩ n,.box 4 [vb false]] [.ptr 0 0 0,nilD] (.tup []) [some (seaR 1 (o0 2 1) ⟨g,W,M⟩ n),some (.box 4 [vb false])] [.data 90 BT [[]]]:=by
 refine con_vc (how:=[]) (c:=r128) (K:=(KK r128)) spU (fun _=> []) (fun _=> []) 400 (.fork .stop .stop) (V:=fun G R=>(true=true→cP 147 [] [nD] (nD) [] []∧Value.slice none 0 0=Value.slice none 0 0∧rM 90 1∧R (D.tup [],[some (Row.box 129 [D.fn 97 [D.ptr 1 0 0],vb true,o0 2 1,vi (Pr.mk g W M).g.h,vi (Pr.mk g W M).g.w,sL tB (Pr.mk g W M).g.B,sL tB (Pr.mk g W M).g.R,sL tB (Pr.mk g W M).g.L,sL tI.sl (Pr.mk g W M).W,sL tU (Mi (Pr.mk g W M).M),vi n]),some (Row.box 4 [vb false])],[Row.data 90 tQ.sl (List.take 1 (List.drop 0 [[]]))]))∧(true=false→R (D.tup [],[some (Row.box 129 [D.fn 97 [D.ptr 1 0 0],vb true,nD,vi (Pr.mk g W M).g.h,vi (Pr.mk g W M).g.w,sL tB (Pr.mk g W M).g.B,sL tB (Pr.mk g W M).g.R,sL tB (Pr.mk g W M).g.L,sL tI.sl (Pr.mk g W M).W,sL tU (Mi (Pr.mk g W M).M),vi n]),some (Row.box 4 [vb false])],[]))) hmG Tryd.func128 (by kernel_rfl) (by kernel_rfl) (fun G R=>by kernel_rfl) ?_;try dsimp only
 have c1:=d147R;simp (disch:=omega) only[oo,oop,oq,reduceCtorEq];repeat' first|with_reducible apply And.intro|intro _|rfl|omega|assumption|trivial|exact room90 (by omega)|exact c1|exact c2|exact c3|(exfalso;simp_all;done)
theorem d127R (g:Gr) (W:List (List Int)) (M:List Nat) (hc:checkP ⟨g,W,M⟩=0) (hM:Smalls M) (hs:(spreadG ⟨g,W,M⟩ [] []).2=false):Con Tryd.prog 127 [.box 125 [.ptr 2 0 0],.box 159 [.fn 127 [.ptr 0 0 0,.ptr 1 0 0]],seaR 3 nilD ⟨g,W,M⟩ 0,.box 4 [vb false]] [nilD,.ptr 0 0 0,.ptr 1 0 0] (vi 0) [some (.box 125 [.ptr 2 0 0]),some (.box 159 [.fn 127 [.ptr 0 0 0,.ptr 1 0 0]]),some (seaR 3 (o0 4 1) ⟨g,W,M⟩ 1),some (.box 4 [vb false])] [.data 90 BT [[]]]:=by
 refine con_vc (how:=[none]) (c:=r127) (K:=(KK r127)) spU (fun _=> []) (fun _=> []) 400 (.fork .stop (.t .stop)) (V:=fun G R=>let yy0:=(Pr.mk (Pr.mk g W M).g (Pr.mk g W M).W (Nt (Mi (Pr.mk g W M).M)));let yy1:=(Row.box 129 [D.fn 97 [D.ptr 3 0 0],vb true,nD,vi (Pr.mk g W M).g.h,vi (Pr.mk g W M).g.w,sL tB (Pr.mk g W M).g.B,sL tB (Pr.mk g W M).g.R,sL tB (Pr.mk g W M).g.L,sL tI.sl (Pr.mk g W M).W,sL tU (Mi (Pr.mk g W M).M),vi (IntKind.i64.wrap ((0:Int)+1))]);let yy3:=(Value.int .i64 (IntKind.i64.wrap ((0:Int)+1)));let yy4:=(Row.box 4 [vb false]);let yy5:=(Value.int .i64 yy0.g.h);let yy6:=(Value.int .i64 yy0.g.w);(decide (IntKind.i64.wrap ((0:Int)+1)>(66000:Int))=true→R (vi 2,[some (Row.box 125 [D.ptr 2 0 0]),some (Row.box 159 [D.fn 127 [p0,D.ptr 1 0 0]]),some yy1,some yy4],[]))∧(decide (IntKind.i64.wrap ((0:Int)+1)>(66000:Int))=false→cP 92 [] [D.agg [D.v yy5,D.v yy6,sL tB yy0.g.B,sL tB yy0.g.R,sL tB yy0.g.L,sL tI.sl yy0.W,sL tU (Mi yy0.M)],sL tQ [],sL tQ.sl []] (D.tup [o0 0 (spreadG yy0 [] []).fst.length,vb (spreadG yy0 [] []).snd]) [] [Row.data 22 tU (Mi (spreadG yy0 [] []).fst)]∧vE (Pr.mk g W M).g.h yy0.g.h∧vE (Pr.mk g W M).g.w yy0.g.w∧(Pr.mk g W M).g.B=yy0.g.B∧(Pr.mk g W M).g.R=yy0.g.R∧(Pr.mk g W M).g.L=yy0.g.L∧(Pr.mk g W M).W=yy0.W∧Mi (Pr.mk g W M).M=Mi yy0.M∧([]:List (Int×Int))=[]∧([]:List (List (Int×Int)))=[]∧(!(spreadG yy0 [] []).snd)=true∧cP 128 [Row.box 129 [D.fn 97 [D.ptr 1 0 0],vb true,nD,D.v yy5,D.v yy6,sL tB yy0.g.B,sL tB yy0.g.R,sL tB yy0.g.L,sL tI.sl yy0.W,sL tU (Mi yy0.M),D.v yy3],Row.box 4 [vb false]] [p0,nD] (D.tup []) [some (Row.box 129 [D.fn 97 [D.ptr 1 0 0],vb true,o0 2 1,D.v yy5,D.v yy6,sL tB yy0.g.B,sL tB yy0.g.R,sL tB yy0.g.L,sL tI.sl yy0.W,sL tU (Mi yy0.M),D.v yy3]),some yy4] [Row.data 90 tQ.sl [[]]]∧2=2∧0=0∧0=0∧Value.slice none 0 0=Value.slice none 0 0∧some yy1=some (Row.box 129 [D.fn 97 [D.ptr 3 0 0],vb true,nD,D.v yy5,D.v yy6,sL tB yy0.g.B,sL tB yy0.g.R,sL tB yy0.g.L,sL tI.sl yy0.W,sL tU (Mi yy0.M),D.v yy3])∧some yy4=some yy4∧R (vi 0,[some (Row.box 125 [D.ptr 2 0 0]),some (Row.box 159 [D.fn 127 [p0,D.ptr 1 0 0]]),some (Row.box 129 [D.fn 97 [D.ptr 3 0 0],vb true,o0 4 1,D.v yy5,D.v yy6,sL tB yy0.g.B,sL tB yy0.g.R,sL tB yy0.g.L,sL tI.sl yy0.W,sL tU (Mi yy0.M),D.v yy3]),some yy4],[Row.data 90 tQ.sl [[]]]))) hmG Tryd.func127 (by kernel_rfl) (by kernel_rfl) (fun G R=>by kernel_rfl) ?_
 try dsimp only
 try dsimp only
 have c92:=d92 g W M [] [] hc hM (by simp) (by simp) (by simp) (by simp);rw[hs] at c92;have c1:=d128R g W M 1;have w1:IntKind.i64.wrap ((0:Int)+1)=1:=by decide
 simp only[w1,Nt_Mi,hs];simp (disch:=omega) only[oo,oop,oq,reduceCtorEq];repeat' first|with_reducible apply And.intro|intro _|rfl|omega|assumption|trivial|exact room90 (by omega)|exact c1|exact c2|exact c3|(exfalso;simp_all;done)
theorem d98R (g:Gr) (W:List (List Int)) (M:List Nat) (hc:checkP ⟨g,W,M⟩=0) (hM:Smalls M) (hs:(spreadG ⟨g,W,M⟩ [] []).2=false):Con Tryd.prog 98 [seaR 1 nilD ⟨g,W,M⟩ 0,.box 4 [vb false]] [.ptr 0 0 0] (vb true) [some (seaR 1 (o0 2 1) ⟨g,W,M⟩ 1),some (.box 4 [vb false])] [.data 90 BT [[]]]:=by
 refine con_vc (how:=[none]) (c:=r98) (K:=(KK r98)) spU (fun _=> []) (fun _=> []) 400 .stop (V:=fun G R=>let yy0:=(Pr.mk (Pr.mk g W M).g (Pr.mk g W M).W (Nt (Mi (Pr.mk g W M).M)));let yy2:=(Row.box 4 [vb false]);let yy3:=(Value.int .i64 (0:Int));let yy4:=(Value.int .i64 yy0.g.h);let yy5:=(Value.int .i64 yy0.g.w);cP 127 [Row.box 125 [D.ptr 2 0 0],Row.box 159 [D.fn 127 [p0,D.ptr 1 0 0]],Row.box 129 [D.fn 97 [D.ptr 3 0 0],vb true,nD,D.v yy4,D.v yy5,sL tB yy0.g.B,sL tB yy0.g.R,sL tB yy0.g.L,sL tI.sl yy0.W,sL tU (Mi yy0.M),D.v yy3],Row.box 4 [vb false]] [nD,p0,D.ptr 1 0 0] (D.v yy3) [some (Row.box 125 [D.ptr 2 0 0]),some (Row.box 159 [D.fn 127 [p0,D.ptr 1 0 0]]),some (Row.box 129 [D.fn 97 [D.ptr 3 0 0],vb true,o0 4 1,D.v yy4,D.v yy5,sL tB yy0.g.B,sL tB yy0.g.R,sL tB yy0.g.L,sL tI.sl yy0.W,sL tU (Mi yy0.M),vi 1]),some yy2] [Row.data 90 tQ.sl [[]]]∧Value.slice none 0 0=Value.slice none 0 0∧2=2∧0=0∧0=0∧3=3∧0=0∧0=0∧some (Row.box 125 [p0])=some (Row.box 125 [p0])∧some (Row.box 159 [D.fn 127 [D.ptr 2 0 0,D.ptr 3 0 0]])=some (Row.box 159 [D.fn 127 [D.ptr 2 0 0,D.ptr 3 0 0]])∧some (Row.box 129 [D.fn 97 [D.ptr 1 0 0],vb true,nD,vi (Pr.mk g W M).g.h,vi (Pr.mk g W M).g.w,sL tB (Pr.mk g W M).g.B,sL tB (Pr.mk g W M).g.R,sL tB (Pr.mk g W M).g.L,sL tI.sl (Pr.mk g W M).W,sL tU (Mi (Pr.mk g W M).M),D.v yy3])=some (Row.box 129 [D.fn 97 [D.ptr 1 0 0],vb true,nD,D.v yy4,D.v yy5,sL tB yy0.g.B,sL tB yy0.g.R,sL tB yy0.g.L,sL tI.sl yy0.W,sL tU (Mi yy0.M),D.v yy3])∧some yy2=some yy2∧R (vb ((0:Int) !=2),[some (Row.box 129 [D.fn 97 [D.ptr 1 0 0],vb true,o0 2 1,D.v yy4,D.v yy5,sL tB yy0.g.B,sL tB yy0.g.R,sL tB yy0.g.L,sL tI.sl yy0.W,sL tU (Mi yy0.M),vi 1]),some yy2],[Row.data 90 tQ.sl [[]]])) hmG Tryd.func98 (by kernel_rfl) (by kernel_rfl) (fun G R=>by kernel_rfl) ?_
 try dsimp only
 try dsimp only
 have c1:=d127R g W M hc hM hs;simp only[Nt_Mi];simp (disch:=omega) only[oo,oop,oq,reduceCtorEq];repeat' first|with_reducible apply And.intro|intro _|rfl|omega|assumption|trivial|exact room90 (by omega)|exact c1|exact c2|exact c3|(exfalso;simp_all;done)
theorem d59R (g:Gr) (W:List (List Int)) (M:List Nat) (hc:checkP ⟨g,W,M⟩=0) (hM:Smalls M) (hs:(spreadG ⟨g,W,M⟩ [] []).2=false):Con Tryd.prog 59 [] [.agg (gG g [slW W,slU M])] (.tup [o0 0 1,vi 0]) [] [.data 90 BT [[]]]:=by
 refine con_vc (how:=[none,none]) (c:=r59) (K:=(KK r59)) spU (fun _=> []) (fun _=> []) 400 (.fork .stop (.fork .stop (.fork (.t .stop) (.fork .stop .stop)))) (V:=fun G R=>let yy0:=(Pr.mk g W (Nt (Mi M)));let yy1:=(Pr.mk yy0.g yy0.W (Nt (Mi yy0.M)));let yy3:=(Value.slice none 0 0);let yy4:=(Value.int .i64 (0:Int));let yy6:=(Value.int .i64 yy0.g.h);let yy7:=(Value.int .i64 yy0.g.w);cP 89 [] [D.agg [D.v yy6,D.v yy7,sL tB yy0.g.B,sL tB yy0.g.R,sL tB yy0.g.L,sL tI.sl yy0.W,sL tU (Mi yy0.M)]] (vi (checkP yy0)) [] []∧gS g yy0.g (W=yy0.W∧Mi M=Mi yy0.M∧((checkP yy0 !=(0:Int))=true→R (D.tup [D.v yy3,vi (checkP yy0)],[],[]))∧((checkP yy0 !=(0:Int))=false→cP 96 [] [D.agg [D.v yy6,D.v yy7,sL tB yy0.g.B,sL tB yy0.g.R,sL tB yy0.g.L,sL tI.sl yy0.W,sL tU (Mi yy0.M)]] (p0) [] [Row.box 129 [D.v Value.nilFunc,vb false,D.v yy3,D.v yy6,D.v yy7,sL tB yy0.g.B,sL tB yy0.g.R,sL tB yy0.g.L,sL tI.sl yy0.W,sL tU (Mi yy0.M),D.v yy4]]∧gS g yy0.g (W=yy0.W∧Mi M=Mi yy0.M∧cP 98 [Row.box 129 [D.fn 97 [D.ptr 1 0 0],vb true,D.v yy3,vi yy1.g.h,vi yy1.g.w,sL tB yy1.g.B,sL tB yy1.g.R,sL tB yy1.g.L,sL tI.sl yy1.W,sL tU (Mi yy1.M),D.v yy4],Row.box 4 [vb false]] [p0] (vb true) [some (Row.box 129 [D.fn 97 [D.ptr 1 0 0],vb true,o0 2 1,vi yy1.g.h,vi yy1.g.w,sL tB yy1.g.B,sL tB yy1.g.R,sL tB yy1.g.L,sL tI.sl yy1.W,sL tU (Mi yy1.M),vi 1]),some (Row.box 4 [vb false])] [Row.data 90 tQ.sl [[]]]∧9=9∧0=0∧0=0∧some (Row.box 129 [D.fn 97 [D.ptr 17 0 0],vb true,D.v yy3,D.v yy6,D.v yy7,sL tB yy0.g.B,sL tB yy0.g.R,sL tB yy0.g.L,sL tI.sl yy0.W,sL tU (Mi yy0.M),D.v yy4])=some (Row.box 129 [D.fn 97 [D.ptr 17 0 0],vb true,D.v yy3,vi yy1.g.h,vi yy1.g.w,sL tB yy1.g.B,sL tB yy1.g.R,sL tB yy1.g.L,sL tI.sl yy1.W,sL tU (Mi yy1.M),D.v yy4])∧some (Row.box 4 [vb false])=some (Row.box 4 [vb false])∧(false=true→R (D.tup [D.v yy3,vi 130],[],[]))∧(false=false→((!true)=true→true=true∧R (D.tup [D.v yy3,vi 2],[],[]))∧((!true)=false→(decide ((↑1:Int)>65000)=true→R (D.tup [D.v yy3,vi 2],[],[]))∧(decide ((↑1:Int)>65000)=false→R (D.tup [o0 0 1,D.v yy4],[],[Row.data 90 tQ.sl [[]]])))))))) hmG Tryd.func59 (by kernel_rfl) (by kernel_rfl) (fun G R=>by kernel_rfl) ?_
 try dsimp only
 try dsimp only
 have c1:=d62 g W M;have c2:=d96R g W M;have c3:=d98R g W M hc hM hs;rw[hc] at c1;have w0:((0:Int) !=0)=false:=rfl;simp only[Nt_Mi,hc,w0];simp (disch:=omega) only[oo,oop,oq,reduceCtorEq];repeat' first|with_reducible apply And.intro|intro _|rfl|omega|assumption|trivial|exact room90 (by omega)|exact c1|exact c2|exact c3|(exfalso;simp_all;done)
theorem small1:Smalls p1.M:=by
 intro x hx;have hx:x∈ [15,15,15,15]:=hx;simp only[List.mem_cons,List.not_mem_nil,or_false,or_self] at hx;rw[hx];decide
theorem d52R:Con Tryd.prog 52 [] [] (vb true) [] []:=by
 refine con_vc (how:=[none]) (c:=r52) (K:=(KK r52)) spV (fun _=> []) (fun _=> []) 400 (.fork (.fork (.fork (.fork (.fork .stop .stop) (.f .stop)) (.f (.f .stop))) (.f (.f (.f .stop)))) (.f (.f (.f (.f .stop))))) (V:=fun G R=>let yy0:=(Pr.mk (Gr.mk (2:Int) (2:Int) (List.replicate 4 false) (List.replicate 4 false) (List.replicate 4 false)) (List.take 2 (List.drop 0 [List.take 2 (List.drop 0 [(0:Int),(1:Int)]),List.take 2 (List.drop 0 [(2:Int),(3:Int)])])) (Nt (List.take 4 (List.drop 0 [(15:Int),(15:Int),(15:Int),(15:Int)]))));let yy1:=(List.drop 0 (List.replicate 4 false));let yy2:=(List.drop 0 [List.take 2 (List.drop 0 [(0:Int),(1:Int)]),List.take 2 (List.drop 0 [(2:Int),(3:Int)])]);let yy3:=(List.drop 0 [(15:Int),(15:Int),(15:Int),(15:Int)]);(0:Int)≤4∧(4:Int)≤4∧(4:Int)≤9223372036854775807∧4≤281474976710656∧(0:Int)≤4∧(4:Int)≤4∧(4:Int)≤9223372036854775807∧4≤281474976710656∧(0:Int)≤4∧(4:Int)≤4∧(4:Int)≤9223372036854775807∧4≤281474976710656∧cP 55 [] [D.agg (gG yy0.g [sL tI.sl yy0.W,sL tU (Mi yy0.M)]),sL tQ.sl (List.take 1 (List.drop 0 [List.take 0 (List.drop 0 [])]))] (D.tup [vi (checkR yy0 (List.take 1 (List.drop 0 [List.take 0 (List.drop 0 [])]))).fst,vi (checkR yy0 (List.take 1 (List.drop 0 [List.take 0 (List.drop 0 [])]))).snd]) [] []∧vE (2:Int) yy0.g.h∧vE (2:Int) yy0.g.w∧List.take 4 yy1=yy0.g.B∧List.take 4 yy1=yy0.g.R∧List.take 4 yy1=yy0.g.L∧List.take 2 yy2=yy0.W∧List.take 4 yy3=Mi yy0.M∧(List.take 1 (List.drop 0 [List.take 0 (List.drop 0 [])]):List (List (Int×Int)))=List.take 1 (List.drop 0 [List.take 0 (List.drop 0 [])])∧cP 55 [] [D.agg (gG yy0.g [sL tI.sl yy0.W,sL tU (Mi yy0.M)]),sL tQ.sl []] (D.tup [vi (checkR yy0 []).fst,vi (checkR yy0 []).snd]) [] []∧vE (2:Int) yy0.g.h∧vE (2:Int) yy0.g.w∧List.take 4 yy1=yy0.g.B∧List.take 4 yy1=yy0.g.R∧List.take 4 yy1=yy0.g.L∧List.take 2 yy2=yy0.W∧List.take 4 yy3=Mi yy0.M∧([]:List (List (Int×Int)))=[]∧cP 59 [] [D.agg (gG yy0.g [sL tI.sl yy0.W,sL tU (Mi yy0.M)])] (D.tup [D.lenv 1,vi 0]) [] []∧vE (2:Int) yy0.g.h∧vE (2:Int) yy0.g.w∧List.take 4 yy1=yy0.g.B∧List.take 4 yy1=yy0.g.R∧List.take 4 yy1=yy0.g.L∧List.take 2 yy2=yy0.W∧List.take 4 yy3=Mi yy0.M∧(((checkR yy0 (List.take 1 (List.drop 0 [List.take 0 (List.drop 0 [])]))).fst==(0:Int))=true→(((checkR yy0 (List.take 1 (List.drop 0 [List.take 0 (List.drop 0 [])]))).snd==(0:Int))=true→(((checkR yy0 []).fst==(0:Int))=true→(((checkR yy0 []).snd==(151:Int))=true→(((0:Int)==0)=true→R (vb true,[],[]))∧(((0:Int)==0)=false→R (vb false,[],[])))∧(((checkR yy0 []).snd==(151:Int))=false→false=false∧R (vb false,[],[])))∧(((checkR yy0 []).fst==(0:Int))=false→false=false∧false=false∧R (vb false,[],[])))∧(((checkR yy0 (List.take 1 (List.drop 0 [List.take 0 (List.drop 0 [])]))).snd==(0:Int))=false→false=false∧false=false∧false=false∧R (vb false,[],[])))∧(((checkR yy0 (List.take 1 (List.drop 0 [List.take 0 (List.drop 0 [])]))).fst==(0:Int))=false→false=false∧false=false∧false=false∧false=false∧R (vb false,[],[]))) hmG Tryd.func52 (by kernel_rfl) (by kernel_rfl) (fun G R=>by kernel_rfl) ?_
 try dsimp only
 try dsimp only
 obtain⟨h1,h2,h3,h4⟩:=nar1;have c1:=d55R p1.g p1.W p1.M [[]] small1 (by intro l hl;simp only[List.mem_singleton] at hl;subst hl;simp);have c2:=d55R p1.g p1.W p1.M [] small1 (by simp);have c3:=con_lenT (d59R p1.g p1.W p1.M h1 small1 h2);have e1:checkR (Pr.mk (Gr.mk (2:Int) (2:Int) (List.replicate 4 false) (List.replicate 4 false) (List.replicate 4 false)) (List.take 2 (List.drop 0 [List.take 2 (List.drop 0 [(0:Int),(1:Int)]),List.take 2 (List.drop 0 [(2:Int),(3:Int)])])) (Nt (List.take 4 (List.drop 0 [(15:Int),(15:Int),(15:Int),(15:Int)])))) (List.take 1 (List.drop 0 [List.take 0 (List.drop 0 [])]))=(0,0):=h3;have e2:checkR (Pr.mk (Gr.mk (2:Int) (2:Int) (List.replicate 4 false) (List.replicate 4 false) (List.replicate 4 false)) (List.take 2 (List.drop 0 [List.take 2 (List.drop 0 [(0:Int),(1:Int)]),List.take 2 (List.drop 0 [(2:Int),(3:Int)])])) (Nt (List.take 4 (List.drop 0 [(15:Int),(15:Int),(15:Int),(15:Int)])))) []=(0,151):=h4;rw[show checkR ⟨p1.g,p1.W,p1.M⟩ [[]]=(0,0) from h3] at c1;rw[show checkR ⟨p1.g,p1.W,p1.M⟩ []=(0,151) from h4] at c2;simp only[e1,e2];repeat' first|with_reducible apply And.intro|intro _|rfl|omega|decide|trivial|exact c1|exact c2|exact c3|(exfalso;simp_all;done)
theorem prov_kind {p:Pr} (hc:checkP p=0):(provF p).2=0∨(provF p=([],130)∨provF p=([],2)):=by
 unfold provF;rw[if_pos hc];split
 ·exact .inr (.inl rfl)
 ·split
  ·exact .inr (.inr rfl)
  ·exact .inl rfl
theorem prov_each {p:Pr} (hc:checkP p=0):∀l∈(provF p).1,l.length≤8796093022208:=by
 intro l hl;have t:=runS_ok hc [] (0,[],false) ⟨by simp,by simp,fun l hl=>by simp at hl⟩ (by simp) ⟨by simp,fun x hx=>by simp at hx⟩;have e:=t.ok.each;unfold provF at hl;rw[if_pos hc] at hl;split at hl
 ·simp at hl
 ·split at hl
  ·simp at hl
  ·have:=(e l hl).1;omega
theorem d13U (g:Gr) (W:List (List Int)) (M:List Nat) (hM:Smalls M):Con Tryd.prog 13 [] [.agg (gG g [slW W,slU M])] (vb true) [] []:=by
 refine con_vc (how:=[none]) (c:=u13) (K:=(KK u13)) spW2 (fun _=> []) (fun _=> []) 400 (.fork .stop (.fork (.fork .stop .stop) (.fork (.fork (.t (.fork (.t (.t (.fork .stop .stop))) (.fork (.t (.fork .stop .stop)) (.fork (.fork .stop .stop) .stop)))) (.fork (.fork (.t (.t (.fork .stop .stop))) (.fork (.t (.fork .stop .stop)) (.fork (.fork .stop .stop) .stop))) (.f .stop))) (.fork (.fork .stop .stop) (.fork (.t (.t .stop)) (.fork (.t .stop) (.fork .stop (.fork (.fork .stop (.fork .stop .stop)) (.fork .stop .stop))))))))) (V:=fun G R=>let yy0:=(Pr.mk g W (Nt (Mi M)));let yy1:=(List.take (provF yy0).fst.length (List.drop 0 (provF yy0).fst));let yy2:=((↑(smallF yy0).fst.length:Int)==0);let yy3:=(↑(provF yy0).fst.length:Int);let yy5:=(D.tup [vi (checkR yy0 yy1).fst,vi (checkR yy0 yy1).snd]);let yy6:=(Value.bool ((provF yy0).snd !=(0:Int)));let yy7:=(Value.bool false);let yy8:=((provF yy0).snd==(130:Int));let yy9:=(Value.int .i64 yy0.g.h);cP 52 [] [] (vb true) [] []∧((!true)=true→R (D.v yy7,[],[]))∧((!true)=false→cP 59 [] [D.agg [D.v yy9,vi yy0.g.w,sL tB yy0.g.B,sL tB yy0.g.R,sL tB yy0.g.L,sL tI.sl yy0.W,sL tU (Mi yy0.M)]] (D.tup [o0 0 (provF yy0).fst.length,vi (provF yy0).snd]) [] [Row.data 90 tQ.sl (provF yy0).fst]∧gS g yy0.g (W=yy0.W∧Mi M=Mi yy0.M∧cP 60 [] [D.agg [D.v yy9,vi yy0.g.w,sL tB yy0.g.B,sL tB yy0.g.R,sL tB yy0.g.L,sL tI.sl yy0.W,sL tU (Mi yy0.M)]] (vi (checkP yy0)) [] []∧gS g yy0.g (W=yy0.W∧Mi M=Mi yy0.M∧((checkP yy0 !=(0:Int))=true→(((provF yy0).snd==checkP yy0)=true→R (vb (yy3==(0:Int)),[],[]))∧(((provF yy0).snd==checkP yy0)=false→R (D.v yy7,[],[])))∧((checkP yy0 !=(0:Int))=false→cP 61 [] [D.agg [D.v yy9,vi yy0.g.w,sL tB yy0.g.B,sL tB yy0.g.R,sL tB yy0.g.L,sL tI.sl yy0.W,sL tU (Mi yy0.M)]] (D.tup [o0 0 (smallF yy0).fst.length,vb (decide ((smallF yy0).snd≤(4000:Int)))]) [] [Row.data 27 tI.sl (smallF yy0).fst]∧gS g yy0.g (W=yy0.W∧Mi M=Mi yy0.M∧((!decide ((smallF yy0).snd≤(4000:Int)))=true→(((provF yy0).snd==(0:Int))=true→true=true∧(((provF yy0).snd==(0:Int))=true→true=true∧true=true∧(yy2=true→R (vb true,[],[]))∧(yy2=false→R (D.v yy6,[],[])))∧(((provF yy0).snd==(0:Int))=false→(yy8=true→true=true∧(yy2=true→R (vb true,[],[]))∧(yy2=false→R (D.v yy6,[],[])))∧(yy8=false→(((provF yy0).snd==(2:Int))=true→(yy2=true→R (vb true,[],[]))∧(yy2=false→R (D.v yy6,[],[])))∧(((provF yy0).snd==(2:Int))=false→R (D.v yy7,[],[])))))∧(((provF yy0).snd==(0:Int))=false→((yy3==(0:Int))=true→(((provF yy0).snd==(0:Int))=true→true=true∧true=true∧(yy2=true→R (vb true,[],[]))∧(yy2=false→R (D.v yy6,[],[])))∧(((provF yy0).snd==(0:Int))=false→(yy8=true→true=true∧(yy2=true→R (vb true,[],[]))∧(yy2=false→R (D.v yy6,[],[])))∧(yy8=false→(((provF yy0).snd==(2:Int))=true→(yy2=true→R (vb true,[],[]))∧(yy2=false→R (D.v yy6,[],[])))∧(((provF yy0).snd==(2:Int))=false→R (D.v yy7,[],[])))))∧((yy3==(0:Int))=false→false=false∧R (D.v yy7,[],[]))))∧((!decide ((smallF yy0).snd≤(4000:Int)))=false→(decide ((↑(smallF yy0).fst.length:Int)>0)=true→(yy8=true→R (vb (yy3==(0:Int)),[],[]))∧(yy8=false→R (D.v yy7,[],[])))∧(decide ((↑(smallF yy0).fst.length:Int)>0)=false→(((provF yy0).snd !=(0:Int))=true→true=true∧true=true∧R (D.v yy7,[],[]))∧(((provF yy0).snd !=(0:Int))=false→(decide (yy3< (1:Int))=true→true=true∧R (D.v yy7,[],[]))∧(decide (yy3< (1:Int))=false→(decide (yy3>(65000:Int))=true→R (D.v yy7,[],[]))∧(decide (yy3>(65000:Int))=false→(decide (yy3≤(60:Int))=true→cP 56 [] [D.agg [D.v yy9,vi yy0.g.w,sL tB yy0.g.B,sL tB yy0.g.R,sL tB yy0.g.L,sL tI.sl yy0.W,sL tU (Mi yy0.M)],sL tQ.sl yy1] yy5 [] []∧gS g yy0.g (W=yy0.W∧Mi M=Mi yy0.M∧List.take (provF yy0).fst.length (List.drop 0 (provF yy0).fst)=List.take (provF yy0).fst.length (List.drop 0 (provF yy0).fst)∧(((checkR yy0 yy1).snd !=(0:Int))=true→R (D.v yy7,[],[]))∧(((checkR yy0 yy1).snd !=(0:Int))=false→cP 55 [] [D.agg [D.v yy9,vi yy0.g.w,sL tB yy0.g.B,sL tB yy0.g.R,sL tB yy0.g.L,sL tI.sl yy0.W,sL tU (Mi yy0.M)],sL tQ.sl yy1] yy5 [] []∧gS g yy0.g (W=yy0.W∧Mi M=Mi yy0.M∧List.take (provF yy0).fst.length (List.drop 0 (provF yy0).fst)=List.take (provF yy0).fst.length (List.drop 0 (provF yy0).fst)∧(((checkR yy0 yy1).fst==(0:Int))=true→R (vb ((checkR yy0 yy1).snd==(0:Int)),[],[]))∧(((checkR yy0 yy1).fst==(0:Int))=false→R (D.v yy7,[],[]))))))∧(decide (yy3≤(60:Int))=false→cP 55 [] [D.agg [D.v yy9,vi yy0.g.w,sL tB yy0.g.B,sL tB yy0.g.R,sL tB yy0.g.L,sL tI.sl yy0.W,sL tU (Mi yy0.M)],sL tQ.sl yy1] yy5 [] []∧gS g yy0.g (W=yy0.W∧Mi M=Mi yy0.M∧List.take (provF yy0).fst.length (List.drop 0 (provF yy0).fst)=List.take (provF yy0).fst.length (List.drop 0 (provF yy0).fst)∧(((checkR yy0 yy1).fst==(0:Int))=true→R (vb ((checkR yy0 yy1).snd==(0:Int)),[],[]))∧(((checkR yy0 yy1).fst==(0:Int))=false→R (D.v yy7,[],[]))))))))))))))) hmG Tryd.func13 (by kernel_rfl) (by kernel_rfl) (fun G R=>by kernel_rfl) ?_
 try dsimp only
 try dsimp only
 have c0:=d52R;have c1:=d59U g W M hM;have c2:=d63 g W M;obtain⟨q,hq⟩:∃q,provF ⟨g,W,M⟩=q:=⟨_,rfl⟩;simp only[Nt_Mi,hq];by_cases hc:checkP ⟨g,W,M⟩=0
 ·have w:(checkP ⟨g,W,M⟩ !=0)=false:=by rw[hc];rfl
  rw[hc] at c2;have c3:=d61R g W M hM hc;have each:=prov_each hc;have kind:=prov_kind hc;have told:=prov_told hc hM;have small:=prov_small hc hM;have fil:=small_fil hc;have taken:=prov_taken hc hM;have chk:=prov_checked hc hM;obtain⟨l,hl⟩:∃l,smallF ⟨g,W,M⟩=l:=⟨_,rfl⟩;rw[hl] at c3 small fil;rw[hq] at each kind told small taken chk c1;have c4:=d55R g W M q.1 hM each;have c5:=d56R g W M q.1 hM each;simp only[w,hl,hc];by_cases hn:l.2≤4000
  ·have wn:decide (l.2≤4000)=true:=decide_eq_true hn;rw[wn] at c3;obtain⟨s1,s2⟩:=small hn;by_cases hl0:l.1=[]
   ·have hz:=s2 hl0;obtain⟨_,⟨P,hP⟩,h65⟩:=taken hz;have hk:=chk hz;rw[hk] at c4 c5;have hlen:1≤q.1.length:=by rw[hP];simp
    have w0:decide ((l.1.length:Int)>0)=false:=decide_eq_false (by rw[hl0];simp);have w1:(q.2 !=0)=false:=by rw[hz];rfl
    have w2:decide ((q.1.length:Int)<1)=false:=decide_eq_false (by omega);have w3:decide ((q.1.length:Int)>65000)=false:=decide_eq_false (by omega);simp only[wn,w0,w1,w2,w3,Bool.not_true,List.drop_zero,List.take_length,hk];by_cases h60:(q.1.length:Int)≤60
    ·have w4:decide ((q.1.length:Int)≤60)=true:=decide_eq_true h60;simp only[w4];simp (disch:=omega) only[oo,oop,oq,reduceCtorEq];repeat' first|with_reducible apply And.intro|intro _|rfl|omega|assumption|trivial|(exfalso;simp_all;done)
    ·have w4:decide ((q.1.length:Int)≤60)=false:=decide_eq_false h60;simp only[w4];simp (disch:=omega) only[oo,oop,oq,reduceCtorEq];repeat' first|with_reducible apply And.intro|intro _|rfl|omega|assumption|trivial|(exfalso;simp_all;done)
   ·have hk:=s1 hl0;have w0:decide ((l.1.length:Int)>0)=true:=decide_eq_true (by have:=List.length_pos_iff.2 hl0;omega);rw[hk] at c1⊢;simp only[wn,w0,Bool.not_true];simp (disch:=omega) only[oo,oop,oq,reduceCtorEq];repeat' first|with_reducible apply And.intro|intro _|rfl|omega|assumption|trivial|(exfalso;simp_all;done)
  ·have wn:decide (l.2≤4000)=false:=decide_eq_false hn;rw[wn] at c3;rcases kind with hz|hz|hz
   ·have hl0:l.1=[]:=by
     cases e:l.1 with
     |nil=>rfl
     |cons f r=>exact absurd (fil f (by rw[e];exact List.mem_cons_self)) (told hz f)
    have w1:(q.2==0)=true:=by rw[hz];rfl
    have w2:((l.1.length:Int)==0)=true:=by rw[hl0];rfl
    simp only[wn,w1,w2,Bool.not_false];simp (disch:=omega) only[oo,oop,oq,reduceCtorEq];repeat' first|with_reducible apply And.intro|intro _|rfl|omega|assumption|trivial|(exfalso;simp_all;done)
   ·rw[hz] at c1⊢;simp only[wn,Bool.not_false];simp (disch:=omega) only[oo,oop,oq,reduceCtorEq];repeat' first|with_reducible apply And.intro|intro _|rfl|omega|assumption|trivial|(exfalso;simp_all;done)
   ·rw[hz] at c1⊢;simp only[wn,Bool.not_false];simp (disch:=omega) only[oo,oop,oq,reduceCtorEq];repeat' first|with_reducible apply And.intro|intro _|rfl|omega|assumption|trivial|(exfalso;simp_all;done)
 ·have w:(checkP ⟨g,W,M⟩ !=0)=true:=by rw[bne_iff_ne];exact hc
  have hk:q=([],checkP ⟨g,W,M⟩):=by rw[←hq];unfold provF;rw[if_neg hc]
  rw[hq,hk] at c1;rw[hk];have w2:(checkP ⟨g,W,M⟩==checkP ⟨g,W,M⟩)=true:=beq_self_eq_true _;simp only[w,w2];simp (disch:=omega) only[oo,oop,oq,reduceCtorEq];repeat' first|with_reducible apply And.intro|intro _|rfl|omega|assumption|trivial|(exfalso;simp_all;done)
end Go.Proofs.YtnakmganodkliaaDoorAm
