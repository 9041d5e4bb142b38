/- What refute.Prove may tell, for every problem (claim RefuteProves): the logic, the contracts and the plain laws (part 8) -/
import Derived.Test.YtnakmganodkliaaDoorPrg
set_option linter.unusedVariables false
set_option linter.unusedSimpArgs false
namespace Go.Proofs.YtnakmganodkliaaDoorAm
open Go
abbrev Slt:=Int×Bool×List Int
def Mi (l:List Nat):List Int:=l.map (fun n:Nat=>(n:Int))
def fitL (m:List Nat) (cs w:List Int):Bool:=w.length==cs.length&&(cs.zip w).all fun q=>hasN (m.getD q.1.toNat 0) q.2
def idxF (f:List Int→Bool):Int→List (List Int)→List Int
 |_,[]=> []
 |i,w::ws=>if f w then i::idxF f (i+1) ws else idxF f (i+1) ws
def thereF (W:List (List Int)) (ok:List Int→Bool) (k:Nat):Nat:=ofN ((W.filter ok).map (·.getD k 0))
def meetL (th:Nat→Nat):Nat→List Int→List Nat→List Nat
 |_,[],m=>m
 |k,c::cs,m=>meetL th (k+1) cs (m.set c.toNat (m.getD c.toNat 0&&&th k))
def onceFrom (W:List (List Int)) (m:List Nat):List Slt→List Nat→List Nat
 | [],nx=>nx
 |s::S,nx=>onceFrom W m S (meetL (thereF W (fitL m s.2.2)) 0 s.2.2 nx)
def onceF (W:List (List Int)) (S:List Slt) (m:List Nat):List Nat:=onceFrom W m S m
def fixF (W:List (List Int)) (S:List Slt):Nat→List Nat→List Nat
 |0,m=>m
 |n+1,m=>if onceF W S m=m then m else fixF W S n (onceF W S m)
def gfpF (W:List (List Int)) (S:List Slt) (m:List Nat):List Nat:=fixF W S (m.sum+1) m
def bitAt (m:List Nat) (c i:Nat):Prop:=(m.getD c 0).testBit i=true
def Leq (a b:List Nat):Prop:=∀c i,bitAt a c i→bitAt b c i
theorem Leq.refl (a:List Nat):Leq a a:=fun _ _ h=>h
theorem Leq.trans {a b c:List Nat} (h:Leq a b) (k:Leq b c):Leq a c:=fun x i hx=>k x i (h x i hx)
theorem bit_lt {m:List Nat} {c i:Nat} (h:bitAt m c i):c<m.length:=by
 apply Nat.lt_of_not_le;intro hle;unfold bitAt at h;rw[gE,List.getElem?_eq_none hle] at h;simp at h
theorem leq_antisymm {a b:List Nat} (hl:a.length=b.length) (h1:Leq a b) (h2:Leq b a):a=b:=by
 apply List.ext_getElem hl;intro c hc hc';apply Nat.eq_of_testBit_eq;intro i;have e1:a.getD c 0=a[c]:=by rw[gE,gQ hc];rfl
 have e2:b.getD c 0=b[c]:=by rw[gE,gQ hc'];rfl
 have g1:=h1 c i;have g2:=h2 c i;unfold bitAt at g1 g2;rw[e1,e2] at g1 g2;exact Bool.eq_iff_iff.2 ⟨g1,g2⟩
theorem getD_set_nat (m:List Nat) (c v d:Nat):(m.set c v).getD d 0=if c=d∧c<m.length then v else m.getD d 0:=by
 simp only[gE,List.getElem?_set];by_cases h:c=d
 ·subst h;by_cases h2:c<m.length<;>simp[h2]
 ·simp[h]
theorem meet_len (th:Nat→Nat):∀(cs:List Int) (k:Nat) (m:List Nat),(meetL th k cs m).length=m.length
 | [],_,_=>rfl
 |c::cs,k,m=>by simp only[meetL];rw[meet_len th cs];simp
theorem meet_bits (th:Nat→Nat):∀(cs:List Int) (k:Nat) (m:List Nat) (c i:Nat),bitAt (meetL th k cs m) c i↔bitAt m c i∧∀j x,cs[j]? =some x→x.toNat=c→(th (k+j)).testBit i=true
 | [],k,m,c,i=>by simp[meetL]
 |a::cs,k,m,c,i=>by
  simp only[meetL];rw[meet_bits th cs (k+1)];have hset:bitAt (m.set a.toNat (m.getD a.toNat 0&&&th k)) c i↔bitAt m c i∧(a.toNat=c→(th k).testBit i=true):=by
   unfold bitAt;rw[getD_set_nat];by_cases h:a.toNat=c
   ·subst h;by_cases h2:a.toNat<m.length
    ·rw[if_pos ⟨rfl,h2⟩,Nat.testBit_and,Bool.and_eq_true];simp
    ·rw[if_neg (fun e=>h2 e.2)];have:m.getD a.toNat 0=0:=by rw[gE,List.getElem?_eq_none (by omega)];rfl
     rw[this];simp
   ·rw[if_neg (fun e=>h e.1)];simp[h]
  rw[hset];constructor
  ·rintro⟨⟨h1,h2⟩,h3⟩
   refine⟨h1,fun j x hx hc=> ?_⟩;cases j with
   |zero=>simp at hx;subst hx;exact h2 hc
   |succ j=>have:=h3 j x (by simpa using hx) hc;rwa [show k+1+j=k+(j+1) by omega] at this
  ·rintro⟨h1,h2⟩
   refine⟨⟨h1,fun hc=>by simpa using h2 0 a rfl hc⟩,fun j x hx hc=> ?_⟩;have:=h2 (j+1) x (by simpa using hx) hc;rwa [show k+(j+1)=k+1+j by omega] at this
theorem onceFrom_len (W:List (List Int)) (m:List Nat):∀(S:List Slt) (nx:List Nat),(onceFrom W m S nx).length=nx.length
 | [],_=>rfl
 |s::S,nx=>by simp only[onceFrom];rw[onceFrom_len W m S,meet_len]
theorem once_len (W:List (List Int)) (S:List Slt) (m:List Nat):(onceF W S m).length=m.length:=onceFrom_len W m S m
theorem onceFrom_bits (W:List (List Int)) (m:List Nat):∀(S:List Slt) (nx:List Nat) (c i:Nat),bitAt (onceFrom W m S nx) c i↔bitAt nx c i∧∀s∈S,∀j x,s.2.2[j]? =some x→x.toNat=c→(thereF W (fitL m s.2.2) j).testBit i=true
 | [],nx,c,i=>by simp[onceFrom]
 |s::S,nx,c,i=>by
  simp only[onceFrom];rw[onceFrom_bits W m S,meet_bits];simp only[Nat.zero_add,List.mem_cons,forall_eq_or_imp];exact⟨fun⟨⟨a,b⟩,c⟩=>⟨a,b,c⟩,fun⟨a,b,c⟩=>⟨⟨a,b⟩,c⟩⟩
theorem once_bits (W:List (List Int)) (S:List Slt) (m:List Nat) (c i:Nat):bitAt (onceF W S m) c i↔bitAt m c i∧∀s∈S,∀j x,s.2.2[j]? =some x→x.toNat=c→(thereF W (fitL m s.2.2) j).testBit i=true:=onceFrom_bits W m S m c i
theorem there_bits (W:List (List Int)) (ok:List Int→Bool) (k i:Nat):(thereF W ok k).testBit i=true↔i<64∧∃w∈W,ok w=true∧w.getD k 0=(i:Int):=by
 unfold thereF ofN;rw[of_bits,Nat.zero_testBit,Bool.false_or,Bool.and_eq_true,decide_eq_true_eq,decide_eq_true_eq,List.mem_map];refine and_congr Iff.rfl ⟨?_,?_⟩
 ·rintro⟨w,hw,e⟩
  rw[List.mem_filter] at hw;exact⟨w,hw.1,hw.2,e⟩
 ·rintro⟨w,h1,h2,e⟩
  exact⟨w,List.mem_filter.2 ⟨h1,h2⟩,e⟩
theorem fit_iff (m:List Nat) (cs w:List Int):fitL m cs w=true↔w.length=cs.length∧∀j x,cs[j]? =some x→hasN (m.getD x.toNat 0) (w.getD j 0)=true:=by
 unfold fitL;rw[Bool.and_eq_true,beq_iff_eq,List.all_eq_true];refine and_congr_right fun hl=>⟨?_,?_⟩
 ·intro h j x hx;have hj:j<cs.length:=(List.getElem?_eq_some_iff.1 hx).1;have hw:w[j]? =some (w.getD j 0):=by simp[gE,show j<w.length by omega]
  exact h (x,w.getD j 0) (List.mem_of_getElem? (i:=j) (by rw[List.getElem?_zip_eq_some];exact⟨hx,hw⟩))
 ·rintro h ⟨x,y⟩ hq
  obtain⟨j,hj⟩:=List.getElem?_of_mem hq;rw[List.getElem?_zip_eq_some] at hj;have:=h j x hj.1;have e:w.getD j 0=y:=by rw[gE,hj.2];rfl
  rw[e] at this;exact this
theorem has_bit {m:List Nat} {c:Nat} {x:Int}:hasN (m.getD c 0) x=true↔0≤x∧x<64∧bitAt m c x.toNat:=by
 unfold hasN bitAt;simp only[Bool.and_eq_true,decide_eq_true_eq]
theorem fit_mono {a b:List Nat} (h:Leq a b) {cs w:List Int} (hf:fitL a cs w=true):fitL b cs w=true:=by
 rw[fit_iff] at hf⊢;refine⟨hf.1,fun j x hx=> ?_⟩;have:=has_bit.1 (hf.2 j x hx);exact has_bit.2 ⟨this.1,this.2.1,h _ _ this.2.2⟩
def Stable1 (W:List (List Int)) (m:List Nat) (s:Slt):Prop:=∀j x,s.2.2[j]? =some x→∀i,bitAt m x.toNat i→(thereF W (fitL m s.2.2) j).testBit i=true
def Stable (W:List (List Int)) (S:List Slt) (m:List Nat):Prop:=∀s∈S,Stable1 W m s
theorem once_leq (W:List (List Int)) (S:List Slt) (m:List Nat):Leq (onceF W S m) m:=fun c i h=>((once_bits W S m c i).1 h).1
theorem stable_iff (W:List (List Int)) (S:List Slt) (m:List Nat):onceF W S m=m↔Stable W S m:=by
 constructor
 ·intro h s hs j x hx i hb;rw[←h] at hb;exact((once_bits W S m _ i).1 hb).2 s hs j x hx rfl
 ·intro h;refine leq_antisymm (once_len W S m) (once_leq W S m) fun c i hb=>(once_bits W S m c i).2 ⟨hb,fun s hs j x hx hc=> ?_⟩;subst hc;exact h s hs j x hx i hb
theorem below_once {W:List (List Int)} {S:List Slt} {a m:List Nat} (ha:Stable W S a) (h:Leq a m):Leq a (onceF W S m):=fun c i hb=>by
 refine(once_bits W S m c i).2 ⟨h c i hb,fun s hs j x hx hc=> ?_⟩;subst hc;have h1:=(there_bits W _ j i).1 (ha s hs j x hx i hb);obtain⟨hi,w,hw,hf,e⟩:=h1;exact(there_bits W _ j i).2 ⟨hi,w,hw,fit_mono h hf,e⟩
theorem sub_le {a b:Nat} (h:∀i,a.testBit i=true→b.testBit i=true):a≤b:=by
 have e:a&&&b=a:=by
  apply Nat.eq_of_testBit_eq;intro i;rw[Nat.testBit_and];cases hb:a.testBit i with
  |false=>rfl
  |true=>rw[h i hb];rfl
 rw[←e];exact Nat.and_le_right
theorem sum_lt:∀{a b:List Nat},a.length=b.length→(∀c,a.getD c 0≤b.getD c 0)→a≠b→a.sum<b.sum
 | [],[],_,_,h=>absurd rfl h
 | [],_::_,hl,_,_=>by simp at hl
 |_::_,[],hl,_,_=>by simp at hl
 |x::a,y::b,hl,hle,hne=>by
  have h0:x≤y:=by simpa using hle 0
  have hl':a.length=b.length:=by simpa using hl
  have hle':∀c,a.getD c 0≤b.getD c 0:=fun c=>by simpa using hle (c+1)
  simp only[List.sum_cons];by_cases e:a=b
  ·subst e;have:x≠y:=fun h=>hne (by rw[h]);omega
  ·have:=sum_lt hl' hle' e;omega
theorem once_sum {W:List (List Int)} {S:List Slt} {m:List Nat} (h:onceF W S m≠m):(onceF W S m).sum<m.sum:=
 sum_lt (once_len W S m) (fun c=>sub_le fun i hi=>once_leq W S m c i hi) h
theorem fix_facts (W:List (List Int)) (S:List Slt):∀(n:Nat) (m:List Nat),m.sum<n→Stable W S (fixF W S n m)∧Leq (fixF W S n m) m∧(fixF W S n m).length=m.length∧∀a,Stable W S a→Leq a m→Leq a (fixF W S n m)
 |0,m,h=>by omega
 |n+1,m,h=>by
  simp only[fixF];by_cases e:onceF W S m=m
  ·rw[if_pos e];exact⟨(stable_iff W S m).1 e,Leq.refl m,rfl,fun a _ h=>h⟩
  ·rw[if_neg e];have hs:=once_sum e;obtain⟨h1,h2,h3,h4⟩:=fix_facts W S n (onceF W S m) (by omega);exact⟨h1,h2.trans (once_leq W S m),h3.trans (once_len W S m),fun a ha hl=>h4 a ha (below_once ha hl)⟩
theorem gfp_stable (W:List (List Int)) (S:List Slt) (m:List Nat):Stable W S (gfpF W S m):=(fix_facts W S _ m (by omega)).1
theorem gfp_leq (W:List (List Int)) (S:List Slt) (m:List Nat):Leq (gfpF W S m) m:=(fix_facts W S _ m (by omega)).2.1
theorem gfp_len (W:List (List Int)) (S:List Slt) (m:List Nat):(gfpF W S m).length=m.length:=(fix_facts W S _ m (by omega)).2.2.1
theorem gfp_most (W:List (List Int)) (S:List Slt) (m:List Nat) {a:List Nat} (ha:Stable W S a) (h:Leq a m):Leq a (gfpF W S m):=(fix_facts W S _ m (by omega)).2.2.2 a ha h
theorem gfp_eq {W:List (List Int)} {S:List Slt} {m x:List Nat} (hl:x.length=m.length) (hx:Stable W S x) (h1:Leq x m) (h2:Leq (gfpF W S m) x):x=gfpF W S m:=
 leq_antisymm (hl.trans (gfp_len W S m).symm) (gfp_most W S m hx h1) h2
theorem fix_step {W:List (List Int)} {S:List Slt} {m:List Nat} (h:onceF W S m≠m):gfpF W S (onceF W S m)=gfpF W S m:=by
 refine leq_antisymm (by rw[gfp_len,gfp_len,once_len]) ?_ ?_
 ·exact gfp_most W S m (gfp_stable W S _) ((gfp_leq W S _).trans (once_leq W S m))
 ·exact gfp_most W S _ (gfp_stable W S m) (below_once (gfp_stable W S m) (gfp_leq W S m))
theorem gfp_same {W:List (List Int)} {S:List Slt} {m:List Nat} (h:onceF W S m=m):gfpF W S m=m:=by
 unfold gfpF;simp only[fixF];rw[if_pos h]
def lookF (W:List (List Int)) (m:List Nat) (s:Slt):List Nat:=meetL (thereF W (fitL m s.2.2)) 0 s.2.2 m
theorem look_len (W:List (List Int)) (m:List Nat) (s:Slt):(lookF W m s).length=m.length:=meet_len _ _ _ _
theorem look_bits (W:List (List Int)) (m:List Nat) (s:Slt) (c i:Nat):bitAt (lookF W m s) c i↔bitAt m c i∧∀j x,s.2.2[j]? =some x→x.toNat=c→(thereF W (fitL m s.2.2) j).testBit i=true:=by
 unfold lookF;rw[meet_bits];simp only[Nat.zero_add]
theorem look_leq (W:List (List Int)) (m:List Nat) (s:Slt):Leq (lookF W m s) m:=fun c i h=>((look_bits W m s c i).1 h).1
theorem look_below {W:List (List Int)} {m a:List Nat} {s:Slt} (ha:Stable1 W a s) (h:Leq a m):Leq a (lookF W m s):=fun c i hb=>by
 refine(look_bits W m s c i).2 ⟨h c i hb,fun j x hx hc=> ?_⟩;subst hc;obtain⟨hi,w,hw,hf,e⟩:=(there_bits W _ j i).1 (ha j x hx i hb);exact(there_bits W _ j i).2 ⟨hi,w,hw,fit_mono h hf,e⟩
def OnceS (s:Slt):Prop:=∀(j k:Nat) (x y:Int),s.2.2[j]? =some x→s.2.2[k]? =some y→x.toNat=y.toNat→j=k
theorem look_fit {W:List (List Int)} {m:List Nat} {s:Slt} (ho:OnceS s) {w:List Int} (hw:w∈W):fitL (lookF W m s) s.2.2 w=fitL m s.2.2 w:=by
 apply Bool.eq_iff_iff.2;refine⟨fun h=>fit_mono (look_leq W m s) h,fun h=> ?_⟩;have hf:=h;rw[fit_iff] at h⊢;refine⟨h.1,fun j x hx=> ?_⟩;obtain⟨h0,h1,h2⟩:=has_bit.1 (h.2 j x hx);refine has_bit.2 ⟨h0,h1,(look_bits W m s _ _).2 ⟨h2,fun k y hy e=> ?_⟩⟩;have:=ho j k x y hx hy e.symm;subst this;exact(there_bits W _ j _).2 ⟨by omega,w,hw,hf,by omega⟩
theorem filter_same {α:Type} {f g:α→Bool}:∀{l:List α},(∀x∈l,f x=g x)→l.filter f=l.filter g
 | [],_=>rfl
 |x::l,h=>by
  simp only[List.filter_cons];rw[h x List.mem_cons_self,filter_same fun y hy=>h y (List.mem_cons_of_mem _ hy)]
theorem idx_same {f g:List Int→Bool}:∀{W:List (List Int)} {i:Int},(∀w∈W,f w=g w)→idxF f i W=idxF g i W
 | [],_,_=>rfl
 |w::W,i,h=>by
  simp only[idxF];rw[h w List.mem_cons_self,idx_same fun y hy=>h y (List.mem_cons_of_mem _ hy)]
theorem there_same {W:List (List Int)} {f g:List Int→Bool} (h:∀w∈W,f w=g w) (k:Nat):thereF W f k=thereF W g k:=by
 unfold thereF;rw[filter_same h]
theorem look_stable {W:List (List Int)} {m:List Nat} {s:Slt} (ho:OnceS s):Stable1 W (lookF W m s) s:=fun j x hx i hb=>by
 rw[there_same (g:=fitL m s.2.2) fun w hw=>look_fit ho hw];exact((look_bits W m s _ i).1 hb).2 j x hx rfl
theorem fit_keep {a b:List Nat} {cs:List Int} (h:∀c∈cs,a.getD c.toNat 0=b.getD c.toNat 0) (w:List Int):fitL a cs w=fitL b cs w:=by
 apply Bool.eq_iff_iff.2;rw[fit_iff,fit_iff];refine and_congr_right fun _=>⟨fun k j x hx=> ?_,fun k j x hx=> ?_⟩
 ·rw[←h x (List.mem_of_getElem? hx)];exact k j x hx
 ·rw[h x (List.mem_of_getElem? hx)];exact k j x hx
theorem stable_keep {W:List (List Int)} {a b:List Nat} {s:Slt} (h:∀c∈s.2.2,a.getD c.toNat 0=b.getD c.toNat 0) (ha:Stable1 W a s):Stable1 W b s:=fun j x hx i hb=>by
 rw[←there_same (fun w _=>fit_keep h w)];refine ha j x hx i ?_;unfold bitAt at hb⊢;rw[h x (List.mem_of_getElem? hx)];exact hb
set_option maxRecDepth 100000
def dirI (d:Bool):Int:=if d then 1 else 0
theorem dir_in (d:Bool):dirI d=0∨dirI d=1:=by cases d<;>simp[dirI]
structure IsRun (g:Gr) (x:Int×Bool×List Int):Prop where
 run:∃i,0≤i∧x.2.2=runOn g (dirI x.2.1) i∧beginsB g i (dirI x.2.1)=true
theorem slots_runs {g:Gr}:∀(m:Nat) (i num:Int),0≤i→∀x∈slotsFrom g m i num,IsRun g x∧i≤x.2.2.getD 0 0
 |0,_,_,_,x,h=>by simp[slotsFrom] at h
 |m+1,i,num,i0,x,h=>by
  simp only[slotsFrom,List.mem_append] at h;rcases h with h|h|h
  ·split at h
   ·rename_i hb;rw[List.mem_singleton.1 h];exact⟨⟨i,i0,rfl,hb⟩,Int.le_refl _⟩
   ·simp at h
  ·split at h
   ·rename_i hb;rw[List.mem_singleton.1 h];exact⟨⟨i,i0,rfl,hb⟩,Int.le_refl _⟩
   ·simp at h
  ·obtain⟨a,b⟩:=slots_runs m (i+1) _ (by omega) x h;exact⟨a,by omega⟩
theorem slots_rise {g:Gr}:∀(m:Nat) (i num:Int),0≤i→(slotsFrom g m i num).Pairwise fun a b=>a.2.1=b.2.1→a.2.2.getD 0 0<b.2.2.getD 0 0
 |0,_,_,_=>by simp[slotsFrom]
 |m+1,i,num,i0=>by
  have ih:=slots_rise (g:=g) m (i+1) (if beginsB g i 0||beginsB g i 1 then num+1 else num) (by omega);have hr:=fun x hx=>(slots_runs (g:=g) m (i+1) (if beginsB g i 0||beginsB g i 1 then num+1 else num) (by omega) x hx).2;have h1:∀(n:Int) (d:Bool) (y:Int),∀b∈slotsFrom g m (i+1) (if beginsB g i 0||beginsB g i 1 then num+1 else num),((n,d,runOn g y i):Int×Bool×List Int).2.1=b.2.1→((n,d,runOn g y i):Int×Bool×List Int).2.2.getD 0 0<b.2.2.getD 0 0:=by
   intro n d y b hb _;have:=hr b hb;show i<_;omega
  simp only[slotsFrom];refine List.pairwise_append.2 ⟨?_,List.pairwise_append.2 ⟨?_,ih,?_⟩,?_⟩
  ·split<;>simp
  ·split<;>simp
  ·intro a ha b hb;split at ha
   ·rw[List.mem_singleton.1 ha];exact h1 _ _ _ b hb
   ·simp at ha
  ·intro a ha b hb;split at ha
   ·rw[List.mem_singleton.1 ha];rcases List.mem_append.1 hb with hb|hb
    ·split at hb
     ·rw[List.mem_singleton.1 hb];intro h;cases h
     ·simp at hb
    ·exact h1 _ _ _ b hb
   ·simp at ha
theorem run_at {g:Gr} {y:Int} (hy:y=0∨y=1):∀(m:Nat) (i:Int) (k:Nat),k+1< (i::onT g y m i).length→stepF g ((i::onT g y m i).getD k 0) y=((i::onT g y m i).getD (k+1) 0,true)
 |0,i,k,h=>by simp[onT] at h
 |m+1,i,k,h=>by
  rcases Bool.eq_false_or_eq_true (stepF g i y).2 with hs|hs
  ·have e:onT g y (m+1) i=(stepF g i y).1::onT g y m (stepF g i y).1:=by
    show(if _ then _ else _)=_;rw[if_pos hs]
   rw[e] at h⊢;cases k with
   |zero=>exact Prod.ext rfl hs
   |succ k=>
    simp only[List.length_cons] at h;exact run_at hy m (stepF g i y).1 k (by simp only[List.length_cons];omega)
  ·have e:onT g y (m+1) i=[]:=by
    show(if _ then _ else _)=_;rw[hs];rfl
   rw[e] at h;simp at h
theorem step_inv {g:Gr} {i j y:Int} (hy:y=0∨y=1) (h:stepF g i y=(j,true)):stepF g j (y+2)=(i,true):=by
 have hf:=step_facts (g:=g) (i:=i) (y:=y) (by rw[h]);have h2:=hf.2.2.2.2.2.2;rw[h] at h2;obtain⟨_,_,oj,hb⟩:=step_back hf.1 h2;rw[stepF,oj];rcases hy with rfl|rfl<;>exact hb
theorem run_unique {g:Gr} {y i i':Int} (hy:y=0∨y=1) (hb:(stepF g i (y+2)).2=false) (hb':(stepF g i' (y+2)).2=false):∀(k k':Nat),k< (runOn g y i).length→k'< (runOn g y i').length→(runOn g y i).getD k 0=(runOn g y i').getD k' 0→k=k'∧i=i'
 |0,0,_,_,e=>⟨rfl,e⟩
 |0,k'+1,_,h',e=>by
  have:=step_inv hy (run_at hy 256 i' k' h');have e2:i=(i'::onT g y 256 i').getD (k'+1) 0:=e;rw[←e2] at this;rw[this] at hb;cases hb
 |k+1,0,h,_,e=>by
  have:=step_inv hy (run_at hy 256 i k h);have e2:(i::onT g y 256 i).getD (k+1) 0=i':=e;rw[e2] at this;rw[this] at hb';cases hb'
 |k+1,k'+1,h,h',e=>by
  have a:=step_inv hy (run_at hy 256 i k h);have b:=step_inv hy (run_at hy 256 i' k' h');have e2:(i::onT g y 256 i).getD (k+1) 0=(i'::onT g y 256 i').getD (k'+1) 0:=e;rw[e2,b] at a;have e3:(i'::onT g y 256 i').getD k' 0=(i::onT g y 256 i).getD k 0:=(Prod.mk.inj a).1;obtain⟨p,q⟩:=run_unique hy hb hb' k k' (Nat.lt_of_succ_lt h) (Nat.lt_of_succ_lt h') e3.symm;exact⟨by omega,q⟩
def Sits (S:List (Int×Bool×List Int)) (d:Bool) (c:Int) (s k:Nat):Prop:=∃x,S[s]? =some x∧x.2.1=d∧k<x.2.2.length∧x.2.2.getD k 0=c
theorem sits_unique {g:Gr} {d:Bool} {c:Int} {s k s' k':Nat} (hc:checkF g=0) (h:Sits (slotsF g) d c s k) (h':Sits (slotsF g) d c s' k'):s=s'∧k=k':=by
 have e:slotsF g=slotsFrom g (g.h*g.w).toNat 0 0:=if_pos hc;rw[e] at h h';obtain⟨x,hx,hd,hk,hg⟩:=h;obtain⟨x',hx',hd',hk',hg'⟩:=h';obtain⟨⟨i,i0,r,b⟩,_⟩:=slots_runs (g:=g) _ 0 0 (by omega) x (List.mem_of_getElem? hx);obtain⟨⟨i',i0',r',b'⟩,_⟩:=slots_runs (g:=g) _ 0 0 (by omega) x' (List.mem_of_getElem? hx');rw[hd] at r b;rw[hd'] at r' b';unfold beginsB at b b';rw[Bool.and_eq_true,Bool.not_eq_true'] at b b';rw[r] at hk hg;rw[r'] at hk' hg';obtain⟨p,q⟩:=run_unique (dir_in d) b.1 b'.1 k k' hk hk' (by rw[hg,hg']);refine⟨?_,p⟩;have hp:=slots_rise (g:=g) (g.h*g.w).toNat 0 0 (by omega);rw[List.pairwise_iff_getElem] at hp;obtain⟨l,e1⟩:=List.getElem?_eq_some_iff.1 hx;obtain⟨l',e1'⟩:=List.getElem?_eq_some_iff.1 hx';have h0:x.2.2.getD 0 0=i:=by rw[r];rfl
 have h0':x'.2.2.getD 0 0=i':=by rw[r'];rfl
 rcases Nat.lt_trichotomy s s' with hl|hl|hl
 ·have:=hp s s' l l' hl (by rw[e1,e1',hd,hd']);rw[e1,e1',h0,h0'] at this;omega
 ·exact hl
 ·have:=hp s' s l' l hl (by rw[e1,e1',hd,hd']);rw[e1,e1',h0,h0'] at this;omega
def sAt (A:List (Int×Int)) (c:Int):Int×Int:=A.getD c.toNat (-1,0)
theorem sAt_set {A:List (Int×Int)} {x y:Int} {v:Int×Int} (x0:0≤x) (y0:0≤y) (yl:y<A.length):sAt (A.set y.toNat v) x=if x=y then v else sAt A x:=by
 unfold sAt;rw[gE,gE,List.getElem?_set];by_cases h:x=y
 ·subst h;rw[if_pos rfl,if_pos rfl,if_pos (by omega)];rfl
 ·rw[if_neg (by omega),if_neg h]
theorem lay_no (s c:Int) (c0:0≤c):∀(cs:List Int) (k:Int) (A:List (Int×Int)),(∀x∈cs,0≤x∧x< (A.length:Int))→(∀x∈cs,x≠c)→sAt (layCells s k cs A) c=sAt A c
 | [],_,_,_,_=>rfl
 |x::cs,k,A,hr,hn=>by
  have h0:=hr x List.mem_cons_self;have h1:=hn x List.mem_cons_self;simp only[layCells];rw[lay_no s c c0 cs (k+1) _ (fun z hz=>by rw[List.length_set];exact hr z (List.mem_cons_of_mem _ hz)) (fun z hz=>hn z (List.mem_cons_of_mem _ hz)),sAt_set c0 h0.1 h0.2,if_neg (fun e=>h1 e.symm)]
theorem lay_yes (s c:Int) (c0:0≤c):∀(cs:List Int) (k:Int) (A:List (Int×Int)) (j:Nat),(∀x∈cs,0≤x∧x< (A.length:Int))→j<cs.length→cs.getD j 0=c→(∀j',j<j'→j'<cs.length→cs.getD j' 0≠c)→sAt (layCells s k cs A) c=(s,k+j)
 | [],_,_,_,_,hj,_,_=>by simp at hj
 |x::cs,k,A,0,hr,hj,he,hu=>by
  have h0:=hr x List.mem_cons_self;have e:x=c:=he;simp only[layCells];rw[lay_no s c c0 cs (k+1) _ (fun z hz=>by rw[List.length_set];exact hr z (List.mem_cons_of_mem _ hz)) (fun z hz=> ?_),sAt_set c0 h0.1 h0.2,if_pos e.symm]
  ·simp
  ·obtain⟨n,hn,rfl⟩:=List.mem_iff_getElem.1 hz;have:=hu (n+1) (by omega) (by simp only[List.length_cons];omega);rw[List.getD_cons_succ,gE,gQ hn] at this;exact this
 |x::cs,k,A,j+1,hr,hj,he,hu=>by
  simp only[layCells];simp only[List.length_cons] at hj;rw[lay_yes s c c0 cs (k+1) _ j (fun z hz=>by rw[List.length_set];exact hr z (List.mem_cons_of_mem _ hz)) (by omega) he (fun j' a b=>by
   have:=hu (j'+1) (by omega) (by simp only[List.length_cons];omega);exact this)]
  refine Prod.ext rfl ?_;show k+1+(j:Int)=k+((j+1:Nat):Int);omega
def IsSeat (S:List (Int×Bool×List Int)) (d:Bool) (c:Int) (v:Int×Int):Prop:=(∀s k:Nat,Sits S d c s k→v=((s:Int),(k:Int)))∧((∀s k:Nat,¬Sits S d c s k)→v=(-1,0))
theorem isSeat_unique {S:List (Int×Bool×List Int)} {d:Bool} {c:Int} {v v':Int×Int} (h:IsSeat S d c v) (h':IsSeat S d c v'):v=v':=by
 by_cases hx:∃s k,Sits S d c s k
 ·obtain⟨s,k,hs⟩:=hx;rw[h.1 s k hs,h'.1 s k hs]
 ·rw[h.2 (fun s k hs=>hx ⟨s,k,hs⟩),h'.2 (fun s k hs=>hx ⟨s,k,hs⟩)]
theorem sits_snoc {P:List (Int×Bool×List Int)} {x:Int×Bool×List Int} {d:Bool} {c:Int} {s k:Nat}:Sits (P++[x]) d c s k↔Sits P d c s k∨(s=P.length∧x.2.1=d∧k<x.2.2.length∧x.2.2.getD k 0=c):=by
 unfold Sits;constructor
 ·rintro⟨z,hz,h⟩
  rcases Nat.lt_trichotomy s P.length with hl|hl|hl
  ·rw[List.getElem?_append_left hl] at hz;exact .inl ⟨z,hz,h⟩
  ·subst hl;rw[List.getElem?_append_right (Nat.le_refl _),Nat.sub_self] at hz;simp only[List.getElem?_cons_zero,sI] at hz;subst hz;exact .inr ⟨rfl,h⟩
  ·rw[List.getElem?_eq_none (by simp;omega)] at hz;cases hz
 ·rintro(⟨z,hz,h⟩|⟨rfl,h⟩)
  ·have hl:=(List.getElem?_eq_some_iff.1 hz).1;exact⟨z,by rw[List.getElem?_append_left hl];exact hz,h⟩
  ·exact⟨x,by rw[List.getElem?_append_right (Nat.le_refl _),Nat.sub_self];rfl,h⟩
theorem seat_lay {P:List (Int×Bool×List Int)} {x:Int×Bool×List Int} {d:Bool} {c:Int} {A:List (Int×Int)} (c0:0≤c) (hr:∀z∈x.2.2,0≤z∧z< (A.length:Int)) (hd:x.2.1=d)
  (hu:∀s k s' k',Sits (P++[x]) d c s k→Sits (P++[x]) d c s' k'→s=s'∧k=k') (h:IsSeat P d c (sAt A c)):IsSeat (P++[x]) d c (sAt (layCells P.length 0 x.2.2 A) c):=by
 by_cases hx:∃k,k<x.2.2.length∧x.2.2.getD k 0=c
 ·obtain⟨k,hk,hg⟩:=hx;have hs:Sits (P++[x]) d c P.length k:=sits_snoc.2 (.inr ⟨rfl,hd,hk,hg⟩);have e:=lay_yes P.length c c0 x.2.2 0 A k hr hk hg (fun j' a b hj=>by
   have:=(hu _ _ _ _ hs (sits_snoc.2 (.inr ⟨rfl,hd,b,hj⟩))).2;omega)
  refine⟨fun s' k' h'=> ?_,fun hn=>absurd hs (hn _ _)⟩;obtain⟨a,b⟩:=hu _ _ _ _ hs h';rw[e,←a,←b];simp
 ·have e:=lay_no P.length c c0 x.2.2 0 A hr (fun z hz hzc=>by
   obtain⟨n,hn,rfl⟩:=List.mem_iff_getElem.1 hz;exact hx ⟨n,hn,by rw[gE,gQ hn];exact hzc⟩)
  rw[e];refine⟨fun s k hs=> ?_,fun hn=>h.2 fun s k hs=>hn s k (sits_snoc.2 (.inl hs))⟩;rcases sits_snoc.1 hs with hs|⟨_,_,hk,hg⟩
  ·exact h.1 s k hs
  ·exact absurd ⟨k,hk,hg⟩ hx
theorem seat_other {P:List (Int×Bool×List Int)} {x:Int×Bool×List Int} {d:Bool} {c:Int} {v:Int×Int} (hd:x.2.1≠d) (h:IsSeat P d c v):IsSeat (P++[x]) d c v:=by
 refine⟨fun s k hs=> ?_,fun hn=>h.2 fun s k hs=>hn s k (sits_snoc.2 (.inl hs))⟩;rcases sits_snoc.1 hs with hs|⟨_,hd',_⟩
 ·exact h.1 s k hs
 ·exact absurd hd' hd
theorem sits_more {P Q:List (Int×Bool×List Int)} {d:Bool} {c:Int} {s k:Nat} (h:Sits P d c s k):Sits (P++Q) d c s k:=by
 obtain⟨z,hz,h⟩:=h;exact⟨z,by rw[List.getElem?_append_left (List.getElem?_eq_some_iff.1 hz).1];exact hz,h⟩
theorem lay_all {c:Int} (c0:0≤c) (N:Nat):∀(ss P:List (Int×Bool×List Int)) (A E:List (Int×Int)),A.length=N→E.length=N→(∀x∈ss,∀z∈x.2.2,0≤z∧z< (N:Int))→
  (∀d s k s' k',Sits (P++ss) d c s k→Sits (P++ss) d c s' k'→s=s'∧k=k')→IsSeat P false c (sAt A c)→IsSeat P true c (sAt E c)→
  IsSeat (P++ss) false c (sAt (laySlots P.length ss A E).1 c)∧IsSeat (P++ss) true c (sAt (laySlots P.length ss A E).2 c)∧(laySlots P.length ss A E).1.length=N∧(laySlots P.length ss A E).2.length=N
 | [],P,A,E,la,le,_,_,h1,h2=>by
  simp only[laySlots,List.append_nil];exact⟨h1,h2,la,le⟩
 |x::ss,P,A,E,la,le,hr,hu,h1,h2=>by
  have hx:=hr x List.mem_cons_self;have hu1:∀d s k s' k',Sits (P++[x]) d c s k→Sits (P++[x]) d c s' k'→s=s'∧k=k':=fun d s k s' k' a b=>hu d s k s' k' (by rw[List.append_cons];exact sits_more a) (by rw[List.append_cons];exact sits_more b);have el:((P++[x]).length:Int)=P.length+1:=by simp
  rw[List.append_cons] at hu⊢;simp only[laySlots];rw[←el];split
  ·rename_i hd;exact lay_all c0 N ss (P++[x]) A _ la (by rw[lay_len];exact le) (fun z hz=>hr z (List.mem_cons_of_mem _ hz)) hu (seat_other (by rw[hd];simp) h1) (seat_lay c0 (by rw[le];exact hx) hd (hu1 true) h2)
  ·rename_i hd;exact lay_all c0 N ss (P++[x]) _ E (by rw[lay_len];exact la) le (fun z hz=>hr z (List.mem_cons_of_mem _ hz)) hu (seat_lay c0 (by rw[la];exact hx) (by simpa using hd) (hu1 false) h1) (seat_other (by simpa using hd) h2)
theorem slots_in {g:Gr} (hc:checkF g=0):∀x∈slotsF g,∀z∈x.2.2,0≤z∧z<g.h*g.w:=by
 intro x hx z hz;have e:slotsF g=slotsFrom g (g.h*g.w).toNat 0 0:=if_pos hc;rw[e] at hx;have:=open_in ((slots_open _ _ _ x hx).2 z hz);omega
theorem seats_are {g:Gr} (hc:checkF g=0) {c:Int} (c0:0≤c):IsSeat (slotsF g) false c (sAt (seatsF g).1 c)∧IsSeat (slotsF g) true c (sAt (seatsF g).2 c)∧((seatsF g).1.length:Int)=g.h*g.w∧((seatsF g).2.length:Int)=g.h*g.w:=by
 have hw:=hw_in (chk0.1 hc).1 (chk0.1 hc).2.1;have e:seatsF g=laySlots 0 (slotsF g) (List.replicate (g.h*g.w).toNat (-1,0)) (List.replicate (g.h*g.w).toNat (-1,0)):=if_pos hc;have hrep:sAt (List.replicate (g.h*g.w).toNat (-1,0)) c=(-1,0):=by
  unfold sAt;rw[gE,List.getElem?_replicate];split<;>rfl
 have none:∀d,IsSeat [] d c (sAt (List.replicate (g.h*g.w).toNat (-1,0)) c):=fun d=>⟨fun s k h=>by obtain⟨x,hx,_⟩:=h;simp at hx,fun _=>hrep⟩;have h:=lay_all c0 (g.h*g.w).toNat (slotsF g) [] _ _ List.length_replicate List.length_replicate (fun x hx z hz=>by have:=slots_in hc x hx z hz;omega) (fun d s k s' k' a b=>sits_unique hc a b) (none false) (none true);rw[e];simp only[List.nil_append,List.length_nil] at h;obtain⟨a,b,p,q⟩:=h;have p':(laySlots 0 (slotsF g) (List.replicate (g.h*g.w).toNat (-1,0)) (List.replicate (g.h*g.w).toNat (-1,0))).1.length=(g.h*g.w).toNat:=p;have q':(laySlots 0 (slotsF g) (List.replicate (g.h*g.w).toNat (-1,0)) (List.replicate (g.h*g.w).toNat (-1,0))).2.length=(g.h*g.w).toNat:=q;exact⟨a,b,by omega,by omega⟩
structure Pr where
 g:Gr
 W:List (List Int)
 M:List Nat
def Nt (l:List Int):List Nat:=l.map Int.toNat
theorem Nt_Mi:∀(l:List Nat),Nt (Mi l)=l
 | []=>rfl
 |a::l=>by
  show((a:Int)).toNat::Nt (Mi l)=_;rw[Nt_Mi l,Int.toNat_natCast]
theorem Mi_len (l:List Nat):(Mi l).length=l.length:=by simp[Mi]
theorem Mi_getD (l:List Nat) (i:Nat):(Mi l).getD i 0=((l.getD i 0:Nat):Int):=by
 unfold Mi;rw[gE,gE,List.getElem?_map];cases l[i]? <;>rfl
theorem Mi_set (l:List Nat) (i n:Nat):(Mi l).set i (n:Int)=Mi (l.set i n):=by
 unfold Mi;rw[List.map_set]
theorem Mi_rep (n:Nat):List.replicate n (0:Int)=Mi (List.replicate n 0):=by simp[Mi]
abbrev WT:Ty:= .sl (.int .i64)
abbrev kW:NK:=⟨27,.sl (.int .i64),0,3,.int .i64⟩
abbrev slW (W:List (List Int)):D:=sL (.sl (.int .i64)) W
abbrev slU (M:List Nat):D:=sL (.int .u64) (Mi M)
abbrev slS (S:List Slt):D:=sL SlT S
abbrev Pr.d (p:Pr):D:= .agg (gG p.g [slW p.W,slU p.M])
def oddB (c:Int):Bool:=decide (c<0)||decide (c>63)
def findI (f:Int→Bool):Int→List Int→Int
 |_,[]=> -1
 |k,x::xs=>if f x then k else findI f (k+1) xs
def badW (w:List Int):Bool:=decide ((w.length:Int)<1)||decide ((w.length:Int)>32)||w.any oddB
def checkP (p:Pr):Int:=if checkF p.g=0 then if(p.W.length:Int)>1000 then 111 else if p.W.any badW then 35 else if(p.M.length:Int)=p.g.h*p.g.w then 0 else 120 else checkF p.g
def wordsF (W:List (List Int)) (S:List Slt) (m:List Nat):List (List Int):=S.map fun s=>idxF (fitL m s.2.2) 0 W
def mayF (W:List (List Int)) (S:List Slt):List (List Int):=S.map fun s=>idxF (fun w=>w.length==s.2.2.length) 0 W
def okF (S:List Slt) (m:List Nat) (ws:List (List Int)):Bool:=ws.all (fun w=>decide ((w.length:Int)>0))&&S.all fun s=>s.2.2.all fun c=>m.getD c.toNat 0 !=0
def seatCells (M:List Nat):List Int→List Nat→List Nat
 | [],m=>m
 |c::cs,m=>seatCells M cs (m.set c.toNat (M.getD c.toNat 0))
def seatSlots (M:List Nat):List Slt→List Nat→List Nat
 | [],m=>m
 |s::ss,m=>seatSlots M ss (seatCells M s.2.2 m)
def m0F (p:Pr):List Nat:=seatSlots p.M (slotsF p.g) (List.replicate p.M.length 0)
def narM (p:Pr):List Nat:=if checkP p=0 then gfpF p.W (slotsF p.g) (m0F p) else []
def narW (p:Pr):List (List Int):=if checkP p=0 then wordsF p.W (slotsF p.g) (narM p) else []
def narO (p:Pr):Bool:=if checkP p=0 then okF (slotsF p.g) (narM p) (narW p) else false
def slotAt (S:List Slt) (s:Int):Slt:=S.getD s.toNat (0,false,[])
def wordAt (W:List (List Int)) (i:Int):List Int:=W.getD i.toNat []
def orW:Nat→List Int→List Nat→List Nat
 |_,[],th=>th
 |k,c::w,th=>orW (k+1) w (th.set k (th.getD k 0|||bitN c))
def keepI (W:List (List Int)) (m:List Nat) (cs:List Int) (l:List Int):List Int:=l.filter fun i=>fitL m cs (wordAt W i)
def orI (W:List (List Int)) (m:List Nat) (cs:List Int) (th:List Nat) (l:List Int):List Nat:=l.foldl (fun th i=>if fitL m cs (wordAt W i) then orW 0 (wordAt W i) th else th) th
def thereI (W:List (List Int)) (m:List Nat) (cs:List Int) (l:List Int):List Nat:=orI W m cs (List.replicate cs.length 0) l
def lookC (W:List (List Int)) (m:List Nat) (cs l:List Int):List Nat:=meetL (fun k=>(thereI W m cs l).getD k 0) 0 cs m
def lostL (th:List Nat):Nat→List Int→List Nat→List Int
 |_,[],_=> []
 |k,c::cs,m=>if m.getD c.toNat 0&&&th.getD k 0=m.getD c.toNat 0 then lostL th (k+1) cs m else c::lostL th (k+1) cs (m.set c.toNat (m.getD c.toNat 0&&&th.getD k 0))
def lostC (W:List (List Int)) (m:List Nat) (cs l:List Int):List Int:=lostL (thereI W m cs l) 0 cs m
def putF (wt:List Bool) (td:List Int) (s:Int):List Bool×List Int:=if 0≤s∧wt.getD s.toNat false=false then(wt.set s.toNat true,td++[s]) else(wt,td)
theorem getD_in {α:Type} {l:List α} {k:Nat} {d:α} (h:k<l.length):l.getD k d∈l:=by
 rw[gE,gQ h];exact List.getElem_mem h
def datC (rd:Nat→Option Row) (t:Ty) (id:Nat):Option (List t.El):=match rd id with
 |some (.data _ t' xs)=>if h:t'=t then some (h▸xs) else none
 |_=>none
def nestC (rd:Nat→Option Row) (k:NK) (id:Nat):Option (List k.t.El):=match rd id with
 |some (.nest k' xs none)=>if h:k'=k then some (h▸xs) else none
 |_=>none
def withP (rd:Nat→Option Row) (h w:Int) (b r l ws ms:D) (k:Pr→List Nat→Option Ann):Option Ann:=
 withW rd h w b r l fun g ls=>match slC rd WT [ws],slC rd (.int .u64) [ms] with
  |some W,some M=>k ⟨g,W,Nt M⟩ (ls++refsDs [ws,ms])
  |_,_=>none
def flag (ts:List Nat) (s:Sp):Sp:=fun f args rd=>if ts.contains f then some {f:=0,args:=[],val:= .top,nk:=some kW} else s f args rd
abbrev envD (W:List (List Int)) (S:List Slt) (m:List Nat):D:= .rptr [.rptr [slW W,slS S,slU m,.top]]
def narVal (m:List Nat) (ws:List (List Int)) (ok:Bool) (e:Int):D:= .tup [.agg [o0 0 m.length,o0 1 ws.length,vb ok],vi e]
def spNa:Sp:=fun f args rd=>match f,args with
 |120,[.v (.int _ c)]=>some {f:=120,args:=[.v (.int .i64 c)],val:= .v (.bool (oddB c))}
 |138,[l,.fn 120 []]=>match slC rd (.int .i64) [l] with
  |some L=>some {f:=138,args:=[slI L,.fn 120 []],val:= .v (.int .i64 (findI oddB 0 L)),lent:=refsDs [l]}
  |none=>none
 |107,[l,.fn 120 []]=>match slC rd (.int .i64) [l] with
  |some L=>some {f:=107,args:=[slI L,.fn 120 []],val:= .v (.bool (L.any oddB)),lent:=refsDs [l]}
  |none=>none
 |89,[.agg [.v (.int _ h),.v (.int _ w),b,r,l,ws,ms]]=>withP rd h w b r l ws ms fun p ls=>some {f:=89,args:=[p.d],val:= .v (.int .i64 (checkP p)),lent:=ls}
 |60,[.agg [.v (.int _ h),.v (.int _ w),b,r,l,ws,ms]]=>withP rd h w b r l ws ms fun p ls=>some {f:=60,args:=[p.d],val:= .v (.int .i64 (checkP p)),lent:=ls}
 |156,[c,.agg [.v (.int _ n),.v (.bool d),cs],w]=>match slC rd (.int .u64) [c],slC rd (.int .i64) [cs],slC rd (.int .i64) [w] with
  |some C,some K,some V=>some {f:=156,args:=[slU (Nt C),.agg [.v (.int .i64 n),.v (.bool d),slI K],slI V],val:= .v (.bool (fitL (Nt C) K V)),lent:=refsDs [c,cs,w]}
  |_,_,_=>none
 |95,[a,b]=>match slC rd (.int .u64) [a],slC rd (.int .u64) [b] with
  |some A,some B=>some {f:=95,args:=[.sl false false (.int .u64) A,.sl false false (.int .u64) B],val:= .v (.bool (decide (A=B))),lent:=refsDs [a,b]}
  |_,_=>none
 |36,[.agg [.v (.int _ h),.v (.int _ w),b,r,l]]=>withW rd h w b r l fun g ls=>some {f:=36,args:=[g.d],val:=slS (slotsF g),lent:=ls}
 |38,[.agg [.v (.int _ h),.v (.int _ w),b,r,l]]=>withW rd h w b r l fun g ls=>some {f:=38,args:=[g.d],val:=slS (slotsF g),lent:=ls}
 |146,[.agg [.v (.int _ h),.v (.int _ w),b,r,l,ws,ms],s,c]=>withP rd h w b r l ws ms fun p ls=>match slC rd SlT [s],slC rd (.int .u64) [c] with
  |some S,some C=>some {f:=146,args:=[p.d,slS S,slU (Nt C)],val:= .tup [.own 0 0 (onceF p.W S (Nt C)).length none,.own 1 0 (wordsF p.W S (Nt C)).length none],allocs:=[.data 22 (.int .u64) (Mi (onceF p.W S (Nt C))),.nest kW (wordsF p.W S (Nt C)) none],lent:=ls++refsDs [s,c]}
  |_,_=>none
 |125,[.agg [.v (.int _ h),.v (.int _ w),b,r,l,ws,ms]]=>withP rd h w b r l ws ms fun p ls=>some {f:=125,args:=[p.d],val:=narVal (narM p) (narW p) (narO p) (checkP p),allocs:=[.data 22 (.int .u64) (Mi (narM p)),.nest kW (narW p) none],lent:=ls}
 |123,[.agg [.v (.int _ h),.v (.int _ w),b,r,l,ws,ms]]=>withP rd h w b r l ws ms fun p ls=>some {f:=123,args:=[p.d],val:=narVal (narM p) (narW p) (narO p) (checkP p),allocs:=[.data 22 (.int .u64) (Mi (narM p)),.nest kW (narW p) none],lent:=ls}
 |143,[.agg [.v (.int _ h),.v (.int _ w),b,r,l,ws,ms]]=>withP rd h w b r l ws ms fun p ls=>some {f:=143,args:=[p.d],val:= .ptr 0 0 0,allocs:=[.box 176 [slW p.W,slS (slotsF p.g),.own 1 0 p.M.length (some p.M.length),.own 2 0 (mayF p.W (slotsF p.g)).length none],.data 22 (.int .u64) (Mi (m0F p)),.nest kW (mayF p.W (slotsF p.g)) none],lent:=ls}
 |144,[.v (.int _ s),.ptr a _ _,.ptr c _ _]=>match rd a,rd c with
  |some (.box _ [.own i1 _ n _]),some (.box _ [.own i2 _ k _])=>match datC rd .bool i1,datC rd (.int .i64) i2 with
   |some wt,some td=>some {f:=144,args:=[.v (.int .i64 s),.ptr 0 0 0,.ptr 2 0 0],pre:=[.box 44 [.own 1 0 n (some n)],.data 4 .bool wt,.box 27 [.own 3 0 k none],.data 3 (.int .i64) td],val:= .tup [],post:=[some (.box 44 [.own 1 0 n (some n)]),some (.data 4 .bool (putF wt td s).1),some (.box 27 [.own 4 0 (putF wt td s).2.length none]),none],allocs:=[.data 3 (.int .i64) (putF wt td s).2],cap:=[a,i1,c,i2]}
   |_,_=>none
  |_,_=>none
 |145,[.ptr tb _ _,.v (.int _ s)]=>match rd tb with
  |some (.box _ [w,l,.own c0 _ n _,.own m0 _ k _])=>match slC rd WT [w],slC rd SlT [l],datC rd (.int .u64) c0,nestC rd kW m0 with
   |some W,some S,some C,some ms=>some {f:=145,args:=[.ptr 0 0 0,.v (.int .i64 s)],pre:=[.box 176 [slW W,slS S,.own 1 0 n (some n),.own 2 0 k none],.data 22 (.int .u64) (Mi (Nt C)),.nest kW ms none],val:= .own 3 0 (lostC W (Nt C) (slotAt S s).2.2 (List.getD ms s.toNat [])).length none,post:=[some (.box 176 [slW W,slS S,.own 1 0 n (some n),.own 2 0 k none]),some (.data 22 (.int .u64) (Mi (lookC W (Nt C) (slotAt S s).2.2 (List.getD ms s.toNat [])))),some (.nest kW (List.set ms s.toNat (keepI W (Nt C) (slotAt S s).2.2 (List.getD ms s.toNat []))) none)],allocs:=[.data 3 (.int .i64) (lostC W (Nt C) (slotAt S s).2.2 (List.getD ms s.toNat []))],cap:=[tb,c0,m0]}
   |_,_,_,_=>none
  |_=>none
 |155,[.v (.int _ i),.rptr [.rptr [w,l,c,_]],.rptr [cs],.ptr b6 _ _]=>match slC rd WT [w],slC rd SlT [l],slC rd (.int .u64) [c],slC rd (.int .i64) [cs],rd b6 with
  |some W,some S,some C,some K,some (.box _ [.own t0 _ n _])=>match datC rd (.int .u64) t0 with
   |some th=>some {f:=155,args:=[.v (.int .i64 i),envD W S (Nt C),.rptr [slI K],.ptr 0 0 0],pre:=[.box 33 [.own 1 0 n (some n)],.data 22 (.int .u64) (Mi (Nt th))],val:= .v (.bool (!fitL (Nt C) K (wordAt W i))),post:=[some (.box 33 [.own 1 0 n (some n)]),some (.data 22 (.int .u64) (Mi (orI W (Nt C) K (Nt th) [i])))],cap:=[b6,t0]}
   |none=>none
  |_,_,_,_,_=>none
 |138,[s,.fn 155 [.rptr [.rptr [w,l,c,_]],.rptr [cs],.ptr b6 _ _]]=>match slC rd WT [w],slC rd SlT [l],slC rd (.int .u64) [c],slC rd (.int .i64) [cs],rd b6 with
  |some W,some S,some C,some K,some (.box _ [.own t0 _ n _])=>match datC rd (.int .u64) t0,slC rd (.int .i64) [s] with
   |some th,some L=>some {f:=138,args:=[slI L,.fn 155 [envD W S (Nt C),.rptr [slI K],.ptr 0 0 0]],pre:=[.box 33 [.own 1 0 n (some n)],.data 22 (.int .u64) (Mi (Nt th))],val:= .v (.int .i64 (findI (fun i=> !fitL (Nt C) K (wordAt W i)) 0 L)),post:=[some (.box 33 [.own 1 0 n (some n)]),some (.data 22 (.int .u64) (Mi (orI W (Nt C) K (Nt th) (L.takeWhile fun i=>fitL (Nt C) K (wordAt W i)))))],cap:=[b6,t0],lent:=refsDs [s]}
   |_,_=>none
  |_,_,_,_,_=>none
 |154,[.own r _ n0 _,.fn 155 [.ptr b2 _ _,.ptr b5 _ _,.ptr b6 _ _]]=>match rd b2,rd b5,rd b6 with
  |some (.box _ [.ptr tb _ _]),some (.box _ [cs]),some (.box _ [.own t0 _ n _])=>match rd tb with
   |some (.box _ [w,l,.own c0 _ _ _,_])=>match slC rd WT [w],slC rd SlT [l],datC rd (.int .u64) c0,slC rd (.int .i64) [cs],datC rd (.int .u64) t0,datC rd (.int .i64) r with
    |some W,some S,some C,some K,some th,some L=>some {f:=154,args:=[.own 0 0 n0 none,.fn 155 [envD W S (Nt C),.rptr [slI K],.ptr 1 0 0]],pre:=[.data 3 (.int .i64) L,.box 33 [.own 2 0 n (some n)],.data 22 (.int .u64) (Mi (Nt th))],val:= .own 0 0 (keepI W (Nt C) K L).length none,post:=[some (.data 3 (.int .i64) (keepI W (Nt C) K L++List.replicate (L.length-(keepI W (Nt C) K L).length) 0)),some (.box 33 [.own 2 0 n (some n)]),some (.data 22 (.int .u64) (Mi (orI W (Nt C) K (Nt th) L)))],cap:=[r,b6,t0],lent:=b2::tb::c0::b5::refsDs [w,l,cs]}
    |_,_,_,_,_,_=>none
   |_=>none
  |_,_,_=>none
 |f,args=>spNm f args rd
noncomputable def n103:=bd Tryd.f120
noncomputable def n128:=bd Tryd.f138
noncomputable def n104:=bd Tryd.f107
noncomputable def n62:=bd Tryd.f89
noncomputable def n63:=bd Tryd.f60
noncomputable def n126:=bd Tryd.f156
noncomputable def n102:=bd Tryd.f95
noncomputable def n101:=bd Tryd.f146
noncomputable def n60:=bd Tryd.f125
noncomputable def n59:=bd Tryd.f123
noncomputable def n97:=bd Tryd.f143
noncomputable def n98:=bd Tryd.f144
noncomputable def n99:=bd Tryd.f145
noncomputable def n124:=bd Tryd.f155
noncomputable def n123:=bd Tryd.f154
noncomputable def n58:=bd Tryd.f53
theorem d103 (c:Int):Con Tryd.prog 120 [] [vi c] ((vb (oddB c))) [] []:=by
 refine con_vc (how:=[none]) (c:=n103) (K:=(KK n103)) spNa (fun _=> []) (fun _=> []) 400 (.fork .stop .stop) (V:=fun G R=>(decide (c< (0:Int))=true→R (vb true,[],[]))∧(decide (c< (0:Int))=false→R (vb (decide (c>(63:Int))),[],[]))) hmG Tryd.func120 (by kernel_rfl) (by kernel_rfl) (fun G R=>by kernel_rfl) ?_;try dsimp only
 unfold oddB;simp (disch:=omega) only[oo,oop,oq,reduceCtorEq];repeat' first|with_reducible apply And.intro|intro _|rfl|omega|(simp_all;done)|(simp_all;omega)
def vq13 (L:List Int) (k:Int) (G:GT) (R:RT):Prop:=let yy0:=(L.getD k.toNat tI.dflt);(decide (k<L.length)=true→0≤k∧k<L.length∧cP 120 [] [vi yy0] (vb (oddB yy0)) [] []∧vE yy0 yy0∧(oddB yy0=true→R (vi k,[],[]))∧(oddB yy0=false→sK n128 0∧G 0 (stOf 19 [0,1,7,8] [sL tI L,D.fn 120 [],vi L.length,vi (IntKind.i64.wrap (k+1))] [])))∧(decide (k<L.length)=false→R (vi (-1),[],[]))
theorem e128 (L:List Int) (hL:(L.length:Int)≤9223372036854775807) (z:Nat):∀(k:Int),0≤k→k+z=L.length→∀r,r=findI oddB k (L.drop k.toNat)→GetsK Tryd.prog Tryd.f138.results.toList [none] (KK n128) 0 (vi r,[],[]) 0 (stOf 19 [0,1,7,8] [slI L,.fn 120 [],vi L.length,vi k] []):=by
 induction z with
 |zero=>
  intro k k0 hk r hr;rw[List.drop_eq_nil_of_le (by omega)] at hr;have hr:r= -1:=hr;rw[hr];refine gets_vc spNa (fun _=> [0,1,7,8]) (fun _=> []) 400 (.fork (.fork .stop (.hd 0)) .stop) (V:=vq13 L k) hmG (fun G R=>by kernel_rfl) ?_;unfold vq13;try dsimp only
  simp (disch:=omega) only[oo,oop,oq,reduceCtorEq];repeat' first|with_reducible apply And.intro|intro _|rfl|omega|assumption|trivial|(exfalso;simp_all;done)
 |succ z ih=>
  intro k k0 hk r hr;have hd:=drop_at (xs:=L) (i:=k) (0:Int) k0 (by omega);rw[hd] at hr;simp only[findI] at hr;have c:=d103 (L.getD k.toNat 0);have hk1:IntKind.i64.wrap (k+1)=k+1:=wrG (by omega) (by omega);have hx:=ih (k+1) (by omega) (by omega);refine gets_vc spNa (fun _=> [0,1,7,8]) (fun _=> []) 400 (.fork (.fork .stop (.hd 0)) .stop) (V:=vq13 L k) hmG (fun G R=>by kernel_rfl) ?_;unfold vq13;try dsimp only
  simp only[Ty.dflt,hk1];cases ho:oddB (L.getD k.toNat 0)<;>rw[ho] at c hr<;>simp only[if_true,Bool.false_eq_true,if_false] at hr<;>subst hr
  all_goals (first|(have hx:=hx _ rfl)|skip)
  all_goals simp (disch:=omega) only[oo,oop,oq,reduceCtorEq];repeat' first|with_reducible apply And.intro|intro _|rfl|omega|assumption|trivial|(exfalso;simp_all;done)
theorem d128 (L:List Int) (hL:(L.length:Int)≤9223372036854775807):Con Tryd.prog 138 [] [slI L,.fn 120 []] ((vi (findI oddB 0 L))) [] []:=by
 refine con_vc (how:=[none]) (c:=n128) (K:=(KK n128)) spNa (fun _=> [0,1,7,8]) (fun _=> []) 400 (.hd 0) (V:=fun G R=>sK n128 0∧G 0 (stOf 19 [0,1,7,8] [sL tI L,D.fn 120 [],vi L.length,vi 0] [])) hmG Tryd.func138 (by kernel_rfl) (by kernel_rfl) (fun G R=>by kernel_rfl) ?_;try dsimp only
 have hx:=e128 L hL L.length 0 (by omega) (by omega) _ rfl;simp only[show(0:Int).toNat=0 by rfl,List.drop_zero] at hx;simp (disch:=omega) only[oo,oop,oq,reduceCtorEq];repeat' first|with_reducible apply And.intro|intro _|rfl|omega|assumption|trivial|(exfalso;simp_all;done)
theorem find_any (f:Int→Bool):∀(L:List Int) (k:Int),0≤k→decide (findI f k L≥0)=L.any f
 | [],k,_=>by simp[findI]
 |x::L,k,h=>by
  simp only[findI,List.any_cons];rcases Bool.eq_false_or_eq_true (f x) with e|e
  ·simp only[e,if_true,Bool.true_or];exact decide_eq_true h
  ·simp only[e,Bool.false_eq_true,if_false,Bool.false_or];exact find_any f L (k+1) (by omega)
theorem d104 (L:List Int) (hL:(L.length:Int)≤9223372036854775807):Con Tryd.prog 107 [] [slI L,.fn 120 []] ((vb (L.any oddB))) [] []:=by
 refine con_vc (how:=[none]) (c:=n104) (K:=(KK n104)) spNa (fun _=> []) (fun _=> []) 400 .stop (V:=fun G R=>cP 138 [] [sL tI L,D.fn 120 []] (vi (findI oddB (0:Int) L)) [] []∧L=L∧R (vb (decide (findI oddB (0:Int) L≥(0:Int))),[],[])) hmG Tryd.func107 (by kernel_rfl) (by kernel_rfl) (fun G R=>by kernel_rfl) ?_;try dsimp only
 have c:=d128 L hL;have e:=find_any oddB L 0 (by omega);rw[←e];simp (disch:=omega) only[oo,oop,oq,reduceCtorEq];repeat' first|with_reducible apply And.intro|intro _|rfl|omega|assumption|trivial|(exfalso;simp_all;done)
theorem size1 {g:Gr} (hc:checkF g=0):(g.B.length:Int)=g.h*g.w:=(size3 (chk0.1 hc).2.2.1).1
def vq14 (g:Gr) (W:List (List Int)) (M:List Nat) (k:Int) (G:GT) (R:RT):Prop:=let yy0:=(W.getD k.toNat tI.sl.dflt);let yy1:=(↑(List.length yy0):Int);(decide (k<W.length)=true→0≤k∧k<W.length∧(decide (yy1< (1:Int))=true→true=true∧true=true∧R (vi 35,[],[]))∧(decide (yy1< (1:Int))=false→(decide (yy1>(32:Int))=true→true=true∧R (vi 35,[],[]))∧(decide (yy1>(32:Int))=false→cP 107 [] [sL tI yy0,D.fn 120 []] (vb (List.any yy0 oddB)) [] []∧W.getD k.toNat tI.sl.dflt=W.getD k.toNat tI.sl.dflt∧(List.any yy0 oddB=true→R (vi 35,[],[]))∧(List.any yy0 oddB=false→sK n62 0∧G 0 (stOf 46 [1,18,19,20] [p0,sL tI.sl W,vi W.length,vi (IntKind.i64.wrap (k+1))] [lB 73 (gG g [sL tI.sl W,sL tU (Mi M)])])))))∧(decide (k<W.length)=false→(((↑(Mi M).length:Int) !=(↑g.B.length:Int))=true→R (vi 120,[],[]))∧(((↑(Mi M).length:Int) !=(↑g.B.length:Int))=false→R (vi 0,[],[])))
theorem e62 (g:Gr) (W:List (List Int)) (M:List Nat) (hc:checkF g=0) (hW:(W.length:Int)≤1000) (z:Nat):∀(k:Int),0≤k→k+z=W.length→∀r,r=(if(W.drop k.toNat).any badW then 35 else if(M.length:Int)=g.h*g.w then 0 else 120)→GetsK Tryd.prog Tryd.f89.results.toList [none] (KK n62) 0 (vi r,[],[]) 0 (stOf 46 [1,18,19,20] [.ptr 0 0 0,slW W,vi W.length,vi k] [lB 73 (gG g [slW W,slU M])]):=by
 have sz:=size1 hc;induction z with
 |zero=>
  intro k k0 hk r hr;rw[List.drop_eq_nil_of_le (by omega)] at hr;simp only[List.any_nil,Bool.false_eq_true,if_false] at hr;rw[hr,←sz];refine gets_vc spNa (fun _=> [1,18,19,20]) (fun _=> []) 400 (.fork (.fork (.t (.t .stop)) (.fork (.t .stop) (.fork .stop (.hd 0)))) (.fork .stop .stop)) (V:=vq14 g W M k) hmG (fun G R=>by kernel_rfl) ?_;unfold vq14;try dsimp only
  simp only[Mi_len];simp (disch:=omega) only[oo,oop,oq,reduceCtorEq];repeat' first|with_reducible apply And.intro|intro _|rfl|omega|assumption|trivial|(simp_all;done)|(rw[if_neg (by omega)])|(rw[if_pos (by omega)])|(exfalso;simp_all;done)
 |succ z ih=>
  intro k k0 hk r hr;have hd:=drop_at (xs:=W) (i:=k) ([]:List Int) k0 (by omega);rw[hd] at hr;simp only[List.any_cons] at hr;have hk1:IntKind.i64.wrap (k+1)=k+1:=wrG (by omega) (by omega);have hx:=ih (k+1) (by omega) (by omega) _ rfl;refine gets_vc spNa (fun _=> [1,18,19,20]) (fun _=> []) 400 (.fork (.fork (.t (.t .stop)) (.fork (.t .stop) (.fork .stop (.hd 0)))) (.fork .stop .stop)) (V:=vq14 g W M k) hmG (fun G R=>by kernel_rfl) ?_;unfold vq14;try dsimp only
  simp only[Ty.dflt,hk1];obtain⟨w,hw⟩:∃w,W.getD k.toNat []=w:=⟨_,rfl⟩;simp only[hw] at hr⊢;by_cases h1:(w.length:Int)<1
  ·have:badW w=true:=by unfold badW;rw[decide_eq_true h1];rfl
   rw[this] at hr;simp only[Bool.true_or,if_true] at hr;rw[hr];simp (disch:=omega) only[oo,oop,oq,reduceCtorEq];repeat' first|with_reducible apply And.intro|intro _|rfl|omega|assumption|trivial|exact c1|(exfalso;simp_all;done)
  ·by_cases h2:(w.length:Int)>32
   ·have:badW w=true:=by unfold badW;rw[decide_eq_true h2];simp
    rw[this] at hr;simp only[Bool.true_or,if_true] at hr;rw[hr];simp (disch:=omega) only[oo,oop,oq,reduceCtorEq];repeat' first|with_reducible apply And.intro|intro _|rfl|omega|assumption|trivial|exact c1|(exfalso;simp_all;done)
   ·have c1:=d104 w (by omega);have:badW w=w.any oddB:=by unfold badW;rw[decide_eq_false h1,decide_eq_false h2];rfl
    rw[this] at hr;cases ho:w.any oddB<;>rw[ho] at c1 hr<;>simp only[Bool.true_or,Bool.false_or,if_true] at hr<;>subst hr
    all_goals simp (disch:=omega) only[oo,oop,oq,reduceCtorEq];repeat' first|with_reducible apply And.intro|intro _|rfl|omega|assumption|trivial|exact c1|(exfalso;simp_all;done)
theorem d62 (g:Gr) (W:List (List Int)) (M:List Nat):Con Tryd.prog 89 [] [.agg (gG g [slW W,slU M])] ((vi (checkP ⟨g,W,M⟩))) [] []:=by
 refine con_vc (how:=[none]) (c:=n62) (K:=(KK n62)) spNa (fun _=> [1,18,19,20]) (fun _=> []) 400 (.fork .stop (.fork .stop (.hd 0))) (V:=fun G R=>cP 44 [] [D.agg (gG g [])] (vi (checkF g)) [] []∧gS g g (((checkF g !=0)=true→R (vi (checkF g),[],[]))∧((checkF g !=0)=false→(decide ((↑W.length:Int)>1000)=true→R (vi 111,[],[]))∧(decide ((↑W.length:Int)>1000)=false→sK n62 0∧G 0 (stOf 46 [1,18,19,20] [p0,sL tI.sl W,vi W.length,vi 0] [lB 73 (gG g [sL tI.sl W,sL tU (Mi M)])]))))) hmG Tryd.func89 (by kernel_rfl) (by kernel_rfl) (fun G R=>by kernel_rfl) ?_;try dsimp only
 have cg:=d43 g;unfold checkP;simp only;by_cases hc:checkF g=0
 ·rw[if_pos hc];by_cases hW:(W.length:Int)>1000
  ·rw[if_pos hW];simp (disch:=omega) only[oo,oop,oq,reduceCtorEq];repeat' first|with_reducible apply And.intro|intro _|rfl|omega|assumption|trivial|exact cg
  ·rw[if_neg hW];have hx:=e62 g W M hc (by omega) W.length 0 (by omega) (by omega) _ rfl;simp only[show(0:Int).toNat=0 by rfl,List.drop_zero] at hx;simp (disch:=omega) only[oo,oop,oq,reduceCtorEq];repeat' first|with_reducible apply And.intro|intro _|rfl|omega|assumption|trivial|exact cg
 ·rw[if_neg hc];simp (disch:=omega) only[oo,oop,oq,reduceCtorEq];repeat' first|with_reducible apply And.intro|intro _|rfl|omega|assumption|trivial|exact cg
def vq15 (g:Gr) (W:List (List Int)) (M:List Nat) (i:Int) (w:List Int) (k:Int) (G:GT) (R:RT):Prop:=let yy0:=(Row.box 73 (gG g [sL tI.sl W,sL tU (Mi M)]));(decide (k<w.length)=true→0≤k∧k<w.length∧(decide (w.getD k.toNat tI.dflt< (0:Int))=true→true=true∧R (vi 35,[],[]))∧(decide (w.getD k.toNat tI.dflt< (0:Int))=false→0≤k∧k<w.length∧(decide (w.getD k.toNat tI.dflt>(63:Int))=true→R (vi 35,[],[]))∧(decide (w.getD k.toNat tI.dflt>(63:Int))=false→sK n63 1∧G 1 (stOf 66 [1,4,5,6] [p0,vi i,sL tI w,vi (IntKind.i64.wrap (k+1))] [Slot.live yy0]))))∧(decide (k<w.length)=false→sK n63 0∧G 0 (stOf 66 [1,4] [p0,vi (IntKind.i64.wrap (i+1))] [Slot.live yy0]))
theorem e63i (g:Gr) (W:List (List Int)) (M:List Nat) (i:Int) (i0:0≤i) (i1:i<1000) (w:List Int) (hw:(w.length:Int)≤32) (R:Int) (hx:GetsK Tryd.prog Tryd.f60.results.toList [none] (KK n63) 0 (vi R,[],[]) 0 (stOf 66 [1,4] [.ptr 0 0 0,vi (i+1)] [lB 73 (gG g [slW W,slU M])])) (z:Nat):∀(k:Int),0≤k→k+z=w.length→∀r,r=(if(w.drop k.toNat).any oddB then 35 else R)→GetsK Tryd.prog Tryd.f60.results.toList [none] (KK n63) 0 (vi r,[],[]) 1 (stOf 66 [1,4,5,6] [.ptr 0 0 0,vi i,slI w,vi k] [lB 73 (gG g [slW W,slU M])]):=by
 have hi1:IntKind.i64.wrap (i+1)=i+1:=wrG (by omega) (by omega);induction z with
 |zero=>
  intro k k0 hk r hr;rw[List.drop_eq_nil_of_le (by omega)] at hr;simp only[List.any_nil,Bool.false_eq_true,if_false] at hr;subst hr;refine gets_vc spNa (fun k=> [[1,4],[1,4,5,6]].getD k []) (fun _=> []) 400 (.fork (.fork (.t .stop) (.fork .stop (.hd 1))) (.hd 0)) (V:=vq15 g W M i w k) hmG (fun G R=>by kernel_rfl) ?_;unfold vq15;try dsimp only
  rw[hi1];simp (disch:=omega) only[oo,oop,oq,reduceCtorEq];repeat' first|with_reducible apply And.intro|intro _|rfl|omega|assumption|trivial|(exfalso;simp_all;done)
 |succ z ih=>
  intro k k0 hk r hr;have hd:=drop_at (xs:=w) (i:=k) (0:Int) k0 (by omega);rw[hd] at hr;simp only[List.any_cons] at hr;have hk1:IntKind.i64.wrap (k+1)=k+1:=wrG (by omega) (by omega);have hy:=ih (k+1) (by omega) (by omega) _ rfl;refine gets_vc spNa (fun k=> [[1,4],[1,4,5,6]].getD k []) (fun _=> []) 400 (.fork (.fork (.t .stop) (.fork .stop (.hd 1))) (.hd 0)) (V:=vq15 g W M i w k) hmG (fun G R=>by kernel_rfl) ?_;unfold vq15;try dsimp only
  simp only[Ty.dflt,hk1];obtain⟨c,hc⟩:∃c,w.getD k.toNat 0=c:=⟨_,rfl⟩;simp only[hc] at hr⊢;unfold oddB at hr;by_cases h1:c<0
  ·rw[decide_eq_true h1] at hr;simp only[Bool.true_or,if_true] at hr;subst hr;simp (disch:=omega) only[oo,oop,oq,reduceCtorEq];repeat' first|with_reducible apply And.intro|intro _|rfl|omega|assumption|trivial|(exfalso;simp_all;done)
  ·rw[decide_eq_false h1] at hr;by_cases h2:c>63
   ·rw[decide_eq_true h2] at hr;simp only[Bool.true_or,Bool.or_true,Bool.false_or,if_true] at hr;subst hr;simp (disch:=omega) only[oo,oop,oq,reduceCtorEq];repeat' first|with_reducible apply And.intro|intro _|rfl|omega|assumption|trivial|(exfalso;simp_all;done)
   ·rw[decide_eq_false h2] at hr;simp only[Bool.false_or] at hr;subst hr;simp (disch:=omega) only[oo,oop,oq,reduceCtorEq];repeat' first|with_reducible apply And.intro|intro _|rfl|omega|assumption|trivial|(exfalso;simp_all;done)
def vq16 (g:Gr) (W:List (List Int)) (M:List Nat) (k:Int) (G:GT) (R:RT):Prop:=let yy0:=(↑(List.length (W.getD k.toNat tI.sl.dflt)):Int);(decide (k<W.length)=true→0≤k∧k<W.length∧(decide (yy0< (1:Int))=true→true=true∧R (vi 35,[],[]))∧(decide (yy0< (1:Int))=false→(decide (yy0>(32:Int))=true→R (vi 35,[],[]))∧(decide (yy0>(32:Int))=false→sK n63 1∧G 1 (stOf 66 [1,4,5,6] [p0,vi k,sL tI (W.getD k.toNat tI.sl.dflt),vi 0] [lB 73 (gG g [sL tI.sl W,sL tU (Mi M)])]))))∧(decide (k<W.length)=false→(((↑(Mi M).length:Int) !=IntKind.i64.wrap (g.h*g.w))=true→R (vi 120,[],[]))∧(((↑(Mi M).length:Int) !=IntKind.i64.wrap (g.h*g.w))=false→R (vi 0,[],[])))
theorem e63 (g:Gr) (W:List (List Int)) (M:List Nat) (hc:checkF g=0) (hW:(W.length:Int)≤1000) (z:Nat):∀(k:Int),0≤k→k+z=W.length→∀r,r=(if(W.drop k.toNat).any badW then 35 else if(M.length:Int)=g.h*g.w then 0 else 120)→GetsK Tryd.prog Tryd.f60.results.toList [none] (KK n63) 0 (vi r,[],[]) 0 (stOf 66 [1,4] [.ptr 0 0 0,vi k] [lB 73 (gG g [slW W,slU M])]):=by
 have ew:=hw_wrap (chk0.1 hc).1 (chk0.1 hc).2.1;induction z with
 |zero=>
  intro k k0 hk r hr;rw[List.drop_eq_nil_of_le (by omega)] at hr;simp only[List.any_nil,Bool.false_eq_true,if_false] at hr;rw[hr];refine gets_vc spNa (fun k=> [[1,4],[1,4,5,6]].getD k []) (fun _=> []) 400 (.fork (.fork (.t .stop) (.fork .stop (.hd 1))) (.fork .stop .stop)) (V:=vq16 g W M k) hmG (fun G R=>by kernel_rfl) ?_;unfold vq16;try dsimp only
  simp only[Mi_len,ew];simp (disch:=omega) only[oo,oop,oq,reduceCtorEq];repeat' first|with_reducible apply And.intro|intro _|rfl|omega|assumption|trivial|(simp_all;done)|(rw[if_neg (by omega)])|(rw[if_pos (by omega)])|(exfalso;simp_all;done)
 |succ z ih=>
  intro k k0 hk r hr;have hd:=drop_at (xs:=W) (i:=k) ([]:List Int) k0 (by omega);rw[hd] at hr;simp only[List.any_cons] at hr;have hk1:IntKind.i64.wrap (k+1)=k+1:=wrG (by omega) (by omega);have hx:=ih (k+1) (by omega) (by omega) _ rfl;refine gets_vc spNa (fun k=> [[1,4],[1,4,5,6]].getD k []) (fun _=> []) 400 (.fork (.fork (.t .stop) (.fork .stop (.hd 1))) (.fork .stop .stop)) (V:=vq16 g W M k) hmG (fun G R=>by kernel_rfl) ?_;unfold vq16;try dsimp only
  simp only[Ty.dflt,hk1];obtain⟨w,hw⟩:∃w,W.getD k.toNat []=w:=⟨_,rfl⟩;simp only[hw] at hr⊢;by_cases h1:(w.length:Int)<1
  ·have:badW w=true:=by unfold badW;rw[decide_eq_true h1];rfl
   rw[this] at hr;simp only[Bool.true_or,if_true] at hr;rw[hr];simp (disch:=omega) only[oo,oop,oq,reduceCtorEq];repeat' first|with_reducible apply And.intro|intro _|rfl|omega|assumption|trivial|(exfalso;simp_all;done)
  ·by_cases h2:(w.length:Int)>32
   ·have:badW w=true:=by unfold badW;rw[decide_eq_true h2];simp
    rw[this] at hr;simp only[Bool.true_or,if_true] at hr;rw[hr];simp (disch:=omega) only[oo,oop,oq,reduceCtorEq];repeat' first|with_reducible apply And.intro|intro _|rfl|omega|assumption|trivial|(exfalso;simp_all;done)
   ·have:badW w=w.any oddB:=by unfold badW;rw[decide_eq_false h1,decide_eq_false h2];rfl
    rw[this] at hr;have hy:=e63i g W M k k0 (by omega) w (by omega) _ hx w.length 0 (by omega) (by omega) r (by
     rw[hr,show(0:Int).toNat=0 by rfl,List.drop_zero];cases w.any oddB<;>simp)
    simp (disch:=omega) only[oo,oop,oq,reduceCtorEq];repeat' first|with_reducible apply And.intro|intro _|rfl|omega|assumption|trivial|(exfalso;simp_all;done)
theorem d63 (g:Gr) (W:List (List Int)) (M:List Nat):Con Tryd.prog 60 [] [.agg (gG g [slW W,slU M])] ((vi (checkP ⟨g,W,M⟩))) [] []:=by
 refine con_vc (how:=[none]) (c:=n63) (K:=(KK n63)) spNa (fun k=> [[1,4],[1,4,5,6]].getD k []) (fun _=> []) 400 (.fork .stop (.fork .stop (.hd 0))) (V:=fun G R=>cP 80 [] [D.agg (gG g [])] (vi (checkF g)) [] []∧gS g g (((checkF g !=0)=true→R (vi (checkF g),[],[]))∧((checkF g !=0)=false→(decide ((↑W.length:Int)>1000)=true→R (vi 111,[],[]))∧(decide ((↑W.length:Int)>1000)=false→sK n63 0∧G 0 (stOf 66 [1,4] [p0,vi 0] [lB 73 (gG g [sL tI.sl W,sL tU (Mi M)])]))))) hmG Tryd.func60 (by kernel_rfl) (by kernel_rfl) (fun G R=>by kernel_rfl) ?_;try dsimp only
 have cg:=d44 g;unfold checkP;simp only;by_cases hc:checkF g=0
 ·rw[if_pos hc];by_cases hW:(W.length:Int)>1000
  ·rw[if_pos hW];simp (disch:=omega) only[oo,oop,oq,reduceCtorEq];repeat' first|with_reducible apply And.intro|intro _|rfl|omega|assumption|trivial|exact cg
  ·rw[if_neg hW];have hx:=e63 g W M hc (by omega) W.length 0 (by omega) (by omega) _ rfl;simp only[show(0:Int).toNat=0 by rfl,List.drop_zero] at hx;simp (disch:=omega) only[oo,oop,oq,reduceCtorEq];repeat' first|with_reducible apply And.intro|intro _|rfl|omega|assumption|trivial|exact cg
 ·rw[if_neg hc];simp (disch:=omega) only[oo,oop,oq,reduceCtorEq];repeat' first|with_reducible apply And.intro|intro _|rfl|omega|assumption|trivial|exact cg
def vq17 (A:List Int) (B:List Int) (k:Int) (G:GT) (R:RT):Prop:=(decide (k<A.length)=true→0≤k∧k<A.length∧0≤k∧k<B.length∧((A.getD k.toNat tU.dflt !=B.getD k.toNat tU.dflt)=true→R (vb false,[],[]))∧((A.getD k.toNat tU.dflt !=B.getD k.toNat tU.dflt)=false→sK n102 0∧G 0 (stOf 26 [0,1,5] [sL tU A,sL tU B,vi (IntKind.i64.wrap (k+1))] [])))∧(decide (k<A.length)=false→R (vb true,[],[]))
theorem e102 (A B:List Int) (hl:A.length=B.length) (hA:(A.length:Int)≤9223372036854775807) (z:Nat):∀(k:Int),0≤k→k+z=A.length→∀r,r=decide (A.drop k.toNat=B.drop k.toNat)→GetsK Tryd.prog Tryd.f95.results.toList [none] (KK n102) 0 (vb r,[],[]) 0 (stOf 26 [0,1,5] [sL (.int .u64) A,sL (.int .u64) B,vi k] []):=by
 induction z with
 |zero=>
  intro k k0 hk r hr;rw[List.drop_eq_nil_of_le (by omega),List.drop_eq_nil_of_le (by omega)] at hr;have hr:r=true:=by rw[hr];rfl
  rw[hr];refine gets_vc spNa (fun _=> [0,1,5]) (fun _=> []) 400 (.fork (.fork .stop (.hd 0)) .stop) (V:=vq17 A B k) hmG (fun G R=>by kernel_rfl) ?_;unfold vq17;try dsimp only
  simp (disch:=omega) only[oo,oop,oq,reduceCtorEq];repeat' first|with_reducible apply And.intro|intro _|rfl|omega|assumption|trivial|(exfalso;simp_all;done)
 |succ z ih=>
  intro k k0 hk r hr;rw[drop_at (xs:=A) (i:=k) (0:Int) k0 (by omega),drop_at (xs:=B) (i:=k) (0:Int) k0 (by omega)] at hr;have hk1:IntKind.i64.wrap (k+1)=k+1:=wrG (by omega) (by omega);have hx:=ih (k+1) (by omega) (by omega) _ rfl;refine gets_vc spNa (fun _=> [0,1,5]) (fun _=> []) 400 (.fork (.fork .stop (.hd 0)) .stop) (V:=vq17 A B k) hmG (fun G R=>by kernel_rfl) ?_;unfold vq17;try dsimp only
  simp only[Ty.dflt,hk1];by_cases h:A.getD k.toNat 0=B.getD k.toNat 0
  ·have hr:r=decide (A.drop (k+1).toNat=B.drop (k+1).toNat):=by
    rw[hr];simp only[List.cons.injEq,h,true_and]
   rw[←hr] at hx;simp (disch:=omega) only[oo,oop,oq,reduceCtorEq];repeat' first|with_reducible apply And.intro|intro _|rfl|omega|assumption|trivial|(exfalso;simp_all;done)
  ·have hr:r=false:=by
    rw[hr];refine decide_eq_false (fun e=>h ?_);rw[List.cons.injEq] at e;exact e.1
   rw[hr];simp (disch:=omega) only[oo,oop,oq,reduceCtorEq];repeat' first|with_reducible apply And.intro|intro _|rfl|omega|assumption|trivial|(exfalso;simp_all;done)
theorem d102 (A B:List Int) (hA:(A.length:Int)≤9223372036854775807):Con Tryd.prog 95 [] [sL (.int .u64) A,sL (.int .u64) B] ((vb (decide (A=B)))) [] []:=by
 refine con_vc (how:=[none]) (c:=n102) (K:=(KK n102)) spNa (fun _=> [0,1,5]) (fun _=> []) 400 (.fork .stop (.hd 0)) (V:=fun G R=>(((↑A.length:Int) !=(↑B.length:Int))=true→R (vb false,[],[]))∧(((↑A.length:Int) !=(↑B.length:Int))=false→sK n102 0∧G 0 (stOf 26 [0,1,5] [sL tU A,sL tU B,vi 0] []))) hmG Tryd.func95 (by kernel_rfl) (by kernel_rfl) (fun G R=>by kernel_rfl) ?_;try dsimp only
 by_cases hl:A.length=B.length
 ·have hx:=e102 A B hl hA A.length 0 (by omega) (by omega) _ rfl;simp only[show(0:Int).toNat=0 by rfl,List.drop_zero] at hx;simp (disch:=omega) only[oo,oop,oq,reduceCtorEq];repeat' first|with_reducible apply And.intro|intro _|rfl|omega|assumption|trivial|(exfalso;simp_all;done)
 ·rw[decide_eq_false (fun e=>hl (by rw[e]))];simp (disch:=omega) only[oo,oop,oq,reduceCtorEq];repeat' first|with_reducible apply And.intro|intro _|rfl|omega|assumption|trivial|(exfalso;simp_all;done)
def Smalls (m:List Nat):Prop:=∀x∈m,x<W64
theorem Smalls.at {m:List Nat} (h:Smalls m) (i:Nat):m.getD i 0<W64:=by
 rw[gE];cases hi:m[i]? with
 |none=>show 0<W64;decide
 |some x=>exact h x (List.mem_of_getElem? hi)
def vq18 (m:List Nat) (n:Int) (d:Bool) (K:List Int) (w:List Int) (k:Int) (G:GT) (R:RT):Prop:=let yy0:=((Mi m).getD (Int.toNat (K.getD k.toNat tI.dflt)) tU.dflt);let yy1:=(w.getD k.toNat tI.dflt);(decide (k<w.length)=true→0≤k∧k<K.length∧(0:Int)≤K.getD k.toNat tI.dflt∧K.getD k.toNat tI.dflt< (↑(Mi m).length:Int)∧0≤k∧k<w.length∧cP 33 [] [D.v (Value.int .u64 yy0),vi yy1] (vb (hasN (Int.toNat yy0) yy1)) [] []∧Value.int .u64 yy0=Value.int .u64 yy0∧vE yy1 yy1∧((!hasN (Int.toNat yy0) yy1)=true→R (vb false,[],[]))∧((!hasN (Int.toNat yy0) yy1)=false→sK n126 0∧G 0 (stOf 34 [0,2,4,7] [sL tU (Mi m),sL tI w,p0,vi (IntKind.i64.wrap (k+1))] [lB 50 [vi n,vb d,sL tI K]])))∧(decide (k<w.length)=false→R (vb true,[],[]))
theorem e126 (m:List Nat) (n:Int) (d:Bool) (K w:List Int) (hl:w.length=K.length) (hw:(w.length:Int)≤9223372036854775807) (hm:Smalls m) (hK:∀c∈K,0≤c∧c<m.length) (z:Nat):∀(k:Int),0≤k→k+z=w.length→∀r,r=((K.drop k.toNat).zip (w.drop k.toNat)).all (fun q=>hasN (m.getD q.1.toNat 0) q.2)→GetsK Tryd.prog Tryd.f156.results.toList [none] (KK n126) 0 (vb r,[],[]) 0 (stOf 34 [0,2,4,7] [slU m,slI w,.ptr 0 0 0,vi k] [lB 50 [vi n,vb d,slI K]]):=by
 induction z with
 |zero=>
  intro k k0 hk r hr;rw[List.drop_eq_nil_of_le (by omega)] at hr;have hr:r=true:=by rw[hr];rfl
  rw[hr];refine gets_vc spNa (fun _=> [0,2,4,7]) (fun _=> []) 400 (.fork (.fork .stop (.hd 0)) .stop) (V:=vq18 m n d K w k) hmG (fun G R=>by kernel_rfl) ?_;unfold vq18;try dsimp only
  simp (disch:=omega) only[oo,oop,oq,reduceCtorEq];repeat' first|with_reducible apply And.intro|intro _|rfl|omega|assumption|trivial|(exfalso;simp_all;done)
 |succ z ih=>
  intro k k0 hk r hr;rw[drop_at (xs:=K) (i:=k) (0:Int) k0 (by omega),drop_at (xs:=w) (i:=k) (0:Int) k0 (by omega)] at hr;simp only[List.zip_cons_cons,List.all_cons] at hr;have hk1:IntKind.i64.wrap (k+1)=k+1:=wrG (by omega) (by omega);have hx:=ih (k+1) (by omega) (by omega) _ rfl;have hc:=hK (K.getD k.toNat 0) (getD_in (by omega));have c1:=d111 (m.getD (K.getD k.toNat 0).toNat 0) (w.getD k.toNat 0) (hm.at _);refine gets_vc spNa (fun _=> [0,2,4,7]) (fun _=> []) 400 (.fork (.fork .stop (.hd 0)) .stop) (V:=vq18 m n d K w k) hmG (fun G R=>by kernel_rfl) ?_;unfold vq18;try dsimp only
  simp only[Ty.dflt,hk1,Mi_getD,Mi_len,Int.toNat_natCast];cases ho:hasN (m.getD (K.getD k.toNat 0).toNat 0) (w.getD k.toNat 0)<;>rw[ho] at c1 hr<;>simp only[Bool.true_and,Bool.false_and] at hr<;>subst hr
  all_goals simp (disch:=omega) only[oo,oop,oq,reduceCtorEq];repeat' first|with_reducible apply And.intro|intro _|rfl|omega|assumption|trivial|(exfalso;simp_all;done)
theorem d126 (m:List Nat) (n:Int) (d:Bool) (K w:List Int) (hw:(K.length:Int)≤9223372036854775807) (hm:Smalls m) (hK:∀c∈K,0≤c∧c<m.length):Con Tryd.prog 156 [] [slU m,.agg [vi n,vb d,slI K],slI w] ((vb (fitL m K w))) [] []:=by
 refine con_vc (how:=[none]) (c:=n126) (K:=(KK n126)) spNa (fun _=> [0,2,4,7]) (fun _=> []) 400 (.fork .stop (.hd 0)) (V:=fun G R=>(((↑w.length:Int) !=(↑K.length:Int))=true→R (vb false,[],[]))∧(((↑w.length:Int) !=(↑K.length:Int))=false→sK n126 0∧G 0 (stOf 34 [0,2,4,7] [sL tU (Mi m),sL tI w,p0,vi 0] [lB 50 [vi n,vb d,sL tI K]]))) hmG Tryd.func156 (by kernel_rfl) (by kernel_rfl) (fun G R=>by kernel_rfl) ?_;try dsimp only
 by_cases hl:w.length=K.length
 ·have hx:=e126 m n d K w hl (by omega) hm hK w.length 0 (by omega) (by omega) _ rfl;simp only[show(0:Int).toNat=0 by rfl,List.drop_zero] at hx;have e:fitL m K w=(K.zip w).all (fun q=>hasN (m.getD q.1.toNat 0) q.2):=by
   unfold fitL;rw[hl,beq_self_eq_true,Bool.true_and]
  rw[e];simp (disch:=omega) only[oo,oop,oq,reduceCtorEq];repeat' first|with_reducible apply And.intro|intro _|rfl|omega|assumption|trivial|(exfalso;simp_all;done)
 ·have e:fitL m K w=false:=by
   unfold fitL;rw[beq_eq_false_iff_ne.2 hl,Bool.false_and]
  rw[e];simp (disch:=omega) only[oo,oop,oq,reduceCtorEq];repeat' first|with_reducible apply And.intro|intro _|rfl|omega|assumption|trivial|(exfalso;simp_all;done)
theorem con_frzS {P:Program} {f:FuncId} {args:List D} {n:Nat} {cap:Option Nat} {e:TypeId} {t:Ty} {xs:List t.El} (hn:xs.length=n) (h:Con P f [] args (.own 0 0 n cap) [] [.data e t xs]):Con P f [] args (.sl false false t xs) [] []:=by
 refine⟨h.fn,fun w ρ S vs M hargs=>(h.run w ρ S vs M hargs).mono ?_⟩;rintro ex w' ⟨v,ρ',S',h1,h2,h3⟩
 have h0:hget (List.map slotOf []++List.map Slot.live [.data e t xs]) 0=some (.data e t xs):=rfl;have hr:rowData (hget (List.map slotOf []++List.map Slot.live [.data e t xs])) 0 0 n t=some xs:=by
  unfold rowData;rw[h0];simp only[dif_pos,List.drop_zero,←hn,List.take_length]
 obtain⟨_,A,c',us',e1,k1,k2,k3,k4,k5⟩:=own_seq (S':=softS ⟨ρ',List.map slotOf []++List.map Slot.live [.data e t xs],S',w'⟩ [0]) h2 (fun _ h=> .inl h) (fun _ _ h=>h) hr (fun l hl' k hk=> .inr ⟨0,by simp,by rw[h0];simp,l,hl',hk⟩) h3;obtain⟨M2,_⟩:=mem_kill h2 h0 (softS ⟨ρ',List.map slotOf []++List.map Slot.live [.data e t xs],S',w'⟩ [0]) (fun k hk=> .inl hk) (fun k hk=>by
  rcases hk with hk|⟨id,hid,_,l,hl,hb⟩
  ·exact .inl hk
  ·simp only[List.mem_singleton] at hid;subst hid;exact .inr ⟨l,hl,hb⟩)
 have hp:=mem_pack M2 (n:=0) rfl (ids:=[]) (ds:=[]) rfl;refine⟨v,_,_,h1,hp,?_⟩;simp only[RelD];exact⟨A,c',us',e1,k1,k2,by simp,by simp,k3,k4⟩
def addT (w:List Int):Nat→List (List Int)→List (List Int)
 |0,th=>th
 |k+1,th=>(addT w k th).set k ((addT w k th).getD k []++[w.getD k 0])
def colsF (f:List Int→Bool) (n:Nat) (V:List (List Int)):List (List Int):=(List.range n).map fun j=>(V.filter f).map (·.getD j 0)
theorem addT_len (w:List Int):∀(k:Nat) (th:List (List Int)),(addT w k th).length=th.length
 |0,_=>rfl
 |k+1,th=>by simp only[addT,List.length_set];exact addT_len w k th
theorem getD_set_gen {α:Type} (d:α) (m:List α) (c:Nat) (v:α) (j:Nat):(m.set c v).getD j d=if c=j∧c<m.length then v else m.getD j d:=by
 simp only[gE,List.getElem?_set];by_cases h:c=j
 ·subst h;by_cases h2:c<m.length<;>simp[h2]
 ·simp[h]
theorem addT_get (w:List Int):∀(k:Nat) (th:List (List Int)) (j:Nat),(addT w k th).getD j []=if j<k∧j<th.length then th.getD j []++[w.getD j 0] else th.getD j []
 |0,th,j=>by simp[addT]
 |k+1,th,j=>by
  simp only[addT];rw[getD_set_gen,addT_len,addT_get w k th k,addT_get w k th j];by_cases h:k=j
  ·subst h;by_cases h2:k<th.length
   ·rw[if_pos ⟨rfl,h2⟩,if_neg (by omega),if_pos ⟨by omega,h2⟩]
   ·rw[if_neg (by omega),if_neg (by omega),if_neg (by omega)]
  ·rw[if_neg (by omega)];by_cases h2:j<k∧j<th.length
   ·rw[if_pos h2,if_pos (by omega)]
   ·rw[if_neg h2,if_neg (by omega)]
theorem cols_len (f:List Int→Bool) (n:Nat) (V:List (List Int)):(colsF f n V).length=n:=by simp[colsF]
theorem cols_get (f:List Int→Bool) {n j:Nat} (V:List (List Int)) (h:j<n):(colsF f n V).getD j []=(V.filter f).map (·.getD j 0):=by
 simp[colsF,gE,h]
theorem list_ext_getD {α:Type} (d:α) {a b:List α} (hl:a.length=b.length) (h:∀j,j<a.length→a.getD j d=b.getD j d):a=b:=by
 apply List.ext_getElem hl;intro j h1 h2;have:=h j h1;rw[gE,gE,gQ h1,gQ h2] at this;exact this
theorem cols_nil (f:List Int→Bool) (n:Nat):colsF f n []=List.replicate n []:=by
 refine list_ext_getD [] (by simp[cols_len]) fun j hj=> ?_;rw[cols_len] at hj;rw[cols_get f [] hj];simp[gE,hj]
theorem cols_yes {f:List Int→Bool} {n:Nat} {V:List (List Int)} {w:List Int} (hf:f w=true):addT w n (colsF f n V)=colsF f n (V++[w]):=by
 refine list_ext_getD [] (by rw[addT_len,cols_len,cols_len]) fun j hj=> ?_;rw[addT_len,cols_len] at hj;rw[addT_get,cols_len,if_pos ⟨hj,hj⟩,cols_get f V hj,cols_get f _ hj,List.filter_append,List.map_append];simp[List.filter_cons,hf]
theorem cols_no {f:List Int→Bool} {n:Nat} {V:List (List Int)} {w:List Int} (hf:f w=false):colsF f n (V++[w])=colsF f n V:=by
 unfold colsF;rw[List.filter_append];simp[List.filter_cons,hf]
theorem idx_snoc (f:List Int→Bool):∀(V:List (List Int)) (w:List Int) (i:Int),idxF f i (V++[w])=idxF f i V++(if f w then [i+V.length] else [])
 | [],w,i=>by
  simp only[List.nil_append,idxF,List.length_nil];cases f w<;>simp
 |v::V,w,i=>by
  simp only[List.cons_append,idxF];rw[idx_snoc f V w (i+1)];have e:i+1+(V.length:Int)=i+((v::V).length:Int):=by simp;omega
  rw[e];cases f v<;>rfl
theorem idx_len (f:List Int→Bool):∀(V:List (List Int)) (i:Int),(idxF f i V).length≤V.length
 | [],_=>by simp[idxF]
 |v::V,i=>by
  simp only[idxF];have:=idx_len f V (i+1);split<;>simp<;>omega
theorem take_succ_at {α:Type} (d:α) (l:List α) {i:Int} (i0:0≤i) (h:i<l.length):l.take (i+1).toNat=l.take i.toNat++[l.getD i.toNat d]:=by
 rw[show(i+1).toNat=i.toNat+1 by omega,List.take_add_one,gE,gQ (by omega)];rfl
theorem set_same {α:Type} (d:α) (l:List α) (i:Nat):l.set i (l.getD i d)=l:=by
 rcases Nat.lt_or_ge i l.length with h|h
 ·rw[gE,gQ h];exact List.set_getElem_self h
 ·exact List.set_eq_of_length_le h
theorem bytes46:Tryd.prog.bytesOf 27=24:=by kernel_rfl
theorem bytes80:Tryd.prog.bytesOf 22=8:=by kernel_rfl
theorem room46 {n:Nat} (h:n≤1000000):roomy Tryd.prog 27 n:=by
 unfold roomy;rw[bytes46];omega
theorem room80 {n:Nat} (h:n≤1000000):roomy Tryd.prog 22 n:=by
 unfold roomy;rw[bytes80];omega
structure Fine (W:List (List Int)) (S:List Slt) (m:List Nat):Prop where
 words:(W.length:Int)≤1000
 long:∀w∈W,w.length≤32
 slots:S.length≤1000
 cells:∀s∈S,s.2.2.length≤300∧∀c∈s.2.2,0≤c∧c<m.length
 size:m.length≤300
 small:Smalls m
theorem meet_smalls {th:Nat→Nat}:∀{cs:List Int} {k:Nat} {m:List Nat},Smalls m→Smalls (meetL th k cs m)
 | [],_,_,h=>h
 |c::cs,k,m,h=>by
  simp only[meetL];refine meet_smalls (cs:=cs) ?_;intro x hx;rcases List.mem_or_eq_of_mem_set hx with hx|hx
  ·exact h x hx
  ·rw[hx];exact and_lt (h.at _)
def vq19 (g:Gr) (W:List (List Int)) (M:List Nat) (S:List Slt) (m:List Nat) (n:Nat) (f:List Int→Bool) (ws:List (List Int)) (s:Int) (k:Int) (nx:List Nat) (G:GT) (R:RT):Prop:=let yy0:=((colsF f n W).getD (0+k.toNat) (NK.mk 27 tI.sl 0 3 tI).t.dflt);let yy1:=(S.getD s.toNat tS.dflt);let yy2:=((Mi nx).getD (0+Int.toNat (List.getD yy1.snd.snd k.toNat tI.dflt)) tU.dflt);let yy4:=(↑(ofN (List.take (List.length yy0) (List.drop 0 yy0))):Int);let yy5:=(Row.box 73 (gG g [sL tI.sl W,sL tU (Mi M)]));let yy6:=(List.getD yy1.snd.snd k.toNat tI.dflt);(decide (k<n)=true→0≤s∧s<S.length∧0≤k∧k< (↑(List.length yy1.snd.snd):Int)∧(0:Int)≤List.getD yy1.snd.snd k.toNat tI.dflt∧List.getD yy1.snd.snd k.toNat tI.dflt< (↑nx.length:Int)∧0+Int.toNat yy6< (Mi nx).length∧0≤k∧k<n∧0+k.toNat< (colsF f n W).length∧cP 30 [] [sL tI (List.take (List.length yy0) (List.drop 0 yy0))] (D.v (Value.int .u64 yy4)) [] []∧List.take (List.length yy0) (List.drop 0 yy0)=List.take (List.length yy0) (List.drop 0 yy0)∧cP 124 [] [D.v (Value.int .u64 yy2),D.v (Value.int .u64 yy4)] (D.v (Value.int .u64 (↑(Int.toNat yy2&&&yy4.toNat):Int))) [] []∧Value.int .u64 yy2=Value.int .u64 yy2∧Value.int .u64 yy4=Value.int .u64 yy4∧(0:Int)≤List.getD yy1.snd.snd k.toNat tI.dflt∧List.getD yy1.snd.snd k.toNat tI.dflt< (↑nx.length:Int)∧0+Int.toNat yy6< (Mi nx).length∧sK n101 3∧G 3 (stOf 112 [1,2,3,8,9,10,12,15] [sL tS S,sL tU (Mi m),p0,o0 1 nx.length,o0 2 ws.length,vi s,D.own 3 0 n (some n),vi (IntKind.i64.wrap (k+1))] [Slot.live yy5,lD 22 tU ((Mi nx).set (0+Int.toNat yy6) (↑(Int.toNat yy2&&&yy4.toNat):Int)),Slot.live (Row.nest (NK.mk 27 tI.sl 0 3 tI) ws none),Slot.live (Row.nest (NK.mk 27 tI.sl 0 3 tI) ((colsF f n W).set (0+k.toNat) (List.take (List.length yy0) yy0)) none)]))∧(decide (k<n)=false→sK n101 0∧G 0 (stOf 112 [1,2,3,8,9,10] [sL tS S,sL tU (Mi m),p0,o0 1 nx.length,o0 2 ws.length,vi (IntKind.i64.wrap (s+1))] [Slot.live yy5,lD 22 tU (Mi nx),Slot.live (Row.nest (NK.mk 27 tI.sl 0 3 tI) ws none)]))
theorem e101c (g:Gr) (W:List (List Int)) (M:List Nat) (S:List Slt) (m:List Nat) (n:Nat) (f:List Int→Bool) (ws:List (List Int)) (s:Int) (F:Fine W S m) (s0:0≤s) (s1:s<S.length) (cs:List Int) (hcs:(S.getD s.toNat (0,false,[])).2.2=cs) (hn:cs.length=n) (r1:List Nat) (r2:List (List Int)) (e:List Nat) (hx:GetsK Tryd.prog Tryd.f146.results.toList [none,none] (KK n101) 0 ((.tup [o0 0 r1.length,o0 1 r2.length]),[],[.data 22 (.int .u64) (Mi r1),.nest kW r2 none]) 0 (stOf 112 [1,2,3,8,9,10] [slS S,slU m,.ptr 0 0 0,o0 1 e.length,o0 2 ws.length,vi (s+1)] [lB 73 (gG g [slW W,slU M]),lD 22 (.int .u64) (Mi e),.live (.nest kW ws none)])) (z:Nat):∀(k:Int) (nx:List Nat),0≤k→k+z=n→nx.length=m.length→Smalls nx→meetL (thereF W f) k.toNat (cs.drop k.toNat) nx=e→GetsK Tryd.prog Tryd.f146.results.toList [none,none] (KK n101) 0 ((.tup [o0 0 r1.length,o0 1 r2.length]),[],[.data 22 (.int .u64) (Mi r1),.nest kW r2 none]) 3 (stOf 112 [1,2,3,8,9,10,12,15] [slS S,slU m,.ptr 0 0 0,o0 1 nx.length,o0 2 ws.length,vi s,.own 3 0 n (some n),vi k] [lB 73 (gG g [slW W,slU M]),lD 22 (.int .u64) (Mi nx),.live (.nest kW ws none),.live (.nest kW (colsF f n W) none)]):=by
 have hs1:IntKind.i64.wrap (s+1)=s+1:=by have:=F.slots;exact wrG (by omega) (by omega)
 have hc1:=F.cells _ (getD_in (d:=(0,false,[])) (k:=s.toNat) (by omega));rw[hcs] at hc1;have hl:=cols_len f n W;have hsl:=F.slots;have hfw:=F.words;induction z with
 |zero=>
  intro k nx k0 hk hnl hsm he;rw[List.drop_eq_nil_of_le (by omega)] at he;have he:nx=e:=he;subst he;refine gets_vc (flag [2000032,2000067,2000081,2000106] spNa) (fun k=> [[1,2,3,8,9,10],[1,2,3,8,9,10,11,12,13],[1,2,3,8,9,10,11,12,13,14],[1,2,3,8,9,10,12,15]].getD k []) (fun k=>if k=99 then [⟨4000007,27,WT⟩] else if k=0∨k=3 then [⟨4000009,27,WT⟩] else [⟨4000009,27,WT⟩,⟨11,3,.int .i64⟩]) 400 (.fork (.hd 3) (.hd 0)) (V:=vq19 g W M S m n f ws s k nx) hmG (fun G R=>by kernel_rfl) ?_;unfold vq19;try dsimp only
  simp only[hs1];simp (disch:=omega) only[oo,oop,oq,reduceCtorEq];repeat' first|with_reducible apply And.intro|intro _|rfl|omega|assumption|trivial|exact room3 (by omega)|exact room46 (by omega)|(exfalso;simp_all;done)
 |succ z ih=>
  intro k nx k0 hk hnl hsm he;have hd:=drop_at (xs:=cs) (i:=k) (0:Int) k0 (by omega);rw[hd] at he;simp only[meetL] at he;have hk1:IntKind.i64.wrap (k+1)=k+1:=by have:=hc1.1;exact wrG (by omega) (by omega)
  have hc2:=hc1.2 _ (getD_in (d:=0) (k:=k.toNat) (l:=cs) (by omega));obtain⟨c,hcc⟩:∃c,cs.getD k.toNat 0=c:=⟨_,rfl⟩;rw[hcc] at he hc2;have hg:=cols_get f (n:=n) (j:=k.toNat) W (by omega);have hlen:(((W.filter f).map (·.getD k.toNat 0)).length:Int)≤9223372036854775807:=by
   rw[List.length_map];have:=List.length_filter_le f W;omega
  have c1:=d117 _ hlen;have c2:=d127 (nx.getD c.toNat 0) (thereF W f k.toNat) (hsm.at _) (of_lt _ _ (by decide));have hx2:=ih (k+1) (nx.set c.toNat (nx.getD c.toNat 0&&&thereF W f k.toNat)) (by omega) (by omega) (by rw[List.length_set];exact hnl) (by
   intro y hy;rcases List.mem_or_eq_of_mem_set hy with hy|hy
   ·exact hsm y hy
   ·rw[hy];exact and_lt (hsm.at _)) (by rw[show(k+1).toNat=k.toNat+1 by omega] at he⊢;exact he)
  rw[List.length_set] at hx2;refine gets_vc (flag [2000032,2000067,2000081,2000106] spNa) (fun k=> [[1,2,3,8,9,10],[1,2,3,8,9,10,11,12,13],[1,2,3,8,9,10,11,12,13,14],[1,2,3,8,9,10,12,15]].getD k []) (fun k=>if k=99 then [⟨4000007,27,WT⟩] else if k=0∨k=3 then [⟨4000009,27,WT⟩] else [⟨4000009,27,WT⟩,⟨11,3,.int .i64⟩]) 400 (.fork (.hd 3) (.hd 0)) (V:=vq19 g W M S m n f ws s k nx) hmG (fun G R=>by kernel_rfl) ?_;unfold vq19;try dsimp only
  simp only[Ty.dflt,hk1,hcs,hcc,take_len,List.drop_zero,List.take_length,Mi_getD,Mi_len,Nt_Mi,Int.toNat_natCast,Mi_set,Nat.zero_add,set_same,List.length_append,List.length_cons,List.length_nil,List.length_set,List.take_zero,List.nil_append,hg,show ofN ((W.filter f).map (·.getD k.toNat 0))=thereF W f k.toNat from rfl];rw[show∀v,(colsF f n W).set k.toNat v=(colsF f n W).set k.toNat v from fun _=>rfl];have hset:(colsF f n W).set k.toNat ((W.filter f).map (·.getD k.toNat 0))=colsF f n W:=by rw[←hg];exact set_same [] _ _
  simp only[hset];simp (disch:=omega) only[oo,oop,oq,reduceCtorEq];repeat' first|with_reducible apply And.intro|intro _|rfl|omega|assumption|trivial|exact room3 (by omega)|exact room46 (by omega)|(exfalso;simp_all;done)
theorem takeSn {α:Type} (l:List α) (x:α):(l++[x]).take (l.length+1)=l++[x]:=List.take_of_length_le (by simp)
theorem take_one {α:Type} (x:α):[x].take 1=[x]:=rfl
theorem zz:(∀(α:Type) (xs:List α),List.take xs.length (List.drop 0 xs)=xs)∧(∀(α:Type) (xs:List α),List.drop 0 xs=xs)∧(∀(α:Type) (xs:List α),List.take xs.length xs=xs)∧(∀(l:List Nat) (i:Nat),(Mi l).getD i 0=((l.getD i 0:Nat):Int))∧(∀l:List Nat,(Mi l).length=l.length)∧(∀l:List Nat,Nt (Mi l)=l)∧(∀n:Nat,Int.toNat (n:Int)=n)∧(∀(l:List Nat) (i n:Nat),(Mi l).set i (n:Int)=Mi (l.set i n))∧(∀n:Nat,0+n=n)∧(∀n:Nat,n-0=n)∧(∀(α:Type) (l:List α) (i:Nat) (a:α),(l.set i a).length=l.length)∧(∀(α:Type) (x:α),[x].take 1=[x])∧(∀(α:Type) (l:List α) (x:α),(l++[x]).take (l.length+1)=l++[x])∧(∀(α:Type) (l:List α),List.take 0 l=[])∧(∀(α:Type) (l:List α),[]++l=l)∧(∀(α:Type) (a b:List α),(a++b).length=a.length+b.length)∧(∀(α:Type) (a:α) (l:List α),(a::l).length=l.length+1)∧∀α:Type,([]:List α).length=0:=
 ⟨fun _=>take_len,fun _ _=>rfl,fun _ _=>List.take_length,Mi_getD,Mi_len,Nt_Mi,Int.toNat_natCast,Mi_set,Nat.zero_add,Nat.sub_zero,fun _ _ _ _=>List.length_set,fun _=>take_one,fun _=>takeSn,fun _ _=>rfl,fun _ _=>rfl,fun _ _ _=>List.length_append,fun _ _ _=>rfl,fun _=>rfl⟩
def vq20 (g:Gr) (W:List (List Int)) (M:List Nat) (S:List Slt) (m:List Nat) (nx:List Nat) (ws:List (List Int)) (s:Int) (so:List Int) (n:Nat) (th0:List (List Int)) (i:Int) (w:List Int) (k:Int) (G:GT) (R:RT):Prop:=let yy1:=(Row.box 73 (gG g [sL tI.sl W,sL tU (Mi M)]));let yy2:=((addT w k.toNat th0).getD (0+k.toNat) (NK.mk 27 tI.sl 0 3 tI).t.dflt);(decide (k<n)=true→0≤k∧k<n∧0+k.toNat< (addT w k.toNat th0).length∧0≤i∧i<W.length∧0≤k∧k< (↑(List.length (W.getD i.toNat tI.sl.dflt)):Int)∧rM 3 (List.length yy2+1)∧0≤k∧k<n∧0+k.toNat< (addT w k.toNat th0).length∧0+k.toNat=0+k.toNat∧sK n101 2∧G 2 (stOf 112 [1,2,3,8,9,10,11,12,13,14] [sL tS S,sL tU (Mi m),p0,o0 1 nx.length,o0 2 ws.length,vi s,o0 3 so.length,D.own 4 0 n (some n),vi i,vi (IntKind.i64.wrap (k+1))] [Slot.live yy1,lD 22 tU (Mi nx),Slot.live (Row.nest (NK.mk 27 tI.sl 0 3 tI) ws none),lD 3 tI so,Slot.live (Row.nest (NK.mk 27 tI.sl 0 3 tI) ((addT w k.toNat th0).set (0+k.toNat) (List.take (List.length yy2+1) (List.take (List.length yy2) (List.drop 0 yy2)++List.take 1 (List.drop 0 [List.getD (W.getD i.toNat tI.sl.dflt) k.toNat tI.dflt])))) none)]))∧(decide (k<n)=false→sK n101 1∧G 1 (stOf 112 [1,2,3,8,9,10,11,12,13] [sL tS S,sL tU (Mi m),p0,o0 1 nx.length,o0 2 ws.length,vi s,o0 3 so.length,D.own 4 0 n (some n),vi (IntKind.i64.wrap (i+1))] [Slot.live yy1,lD 22 tU (Mi nx),Slot.live (Row.nest (NK.mk 27 tI.sl 0 3 tI) ws none),lD 3 tI so,Slot.live (Row.nest (NK.mk 27 tI.sl 0 3 tI) (addT w k.toNat th0) none)]))
theorem e101k (g:Gr) (W:List (List Int)) (M:List Nat) (S:List Slt) (m:List Nat) (nx:List Nat) (ws:List (List Int)) (s:Int) (F:Fine W S m) (s0:0≤s) (s1:s<S.length) (so:List Int) (n:Nat) (th0:List (List Int)) (i:Int) (i0:0≤i) (i1:i<W.length) (hth:th0.length=n) (hb:∀j,(th0.getD j []).length≤1000) (w:List Int) (hw:W.getD i.toNat []=w) (hwl:w.length=n) (r1:List Nat) (r2:List (List Int)) (hx:GetsK Tryd.prog Tryd.f146.results.toList [none,none] (KK n101) 0 ((.tup [o0 0 r1.length,o0 1 r2.length]),[],[.data 22 (.int .u64) (Mi r1),.nest kW r2 none]) 1 (stOf 112 [1,2,3,8,9,10,11,12,13] [slS S,slU m,.ptr 0 0 0,o0 1 nx.length,o0 2 ws.length,vi s,o0 3 so.length,.own 4 0 n (some n),vi (i+1)] [lB 73 (gG g [slW W,slU M]),lD 22 (.int .u64) (Mi nx),.live (.nest kW ws none),lD 3 (.int .i64) so,.live (.nest kW (addT w n th0) none)])) (z:Nat):∀(k:Int),0≤k→k+z=n→GetsK Tryd.prog Tryd.f146.results.toList [none,none] (KK n101) 0 ((.tup [o0 0 r1.length,o0 1 r2.length]),[],[.data 22 (.int .u64) (Mi r1),.nest kW r2 none]) 2 (stOf 112 [1,2,3,8,9,10,11,12,13,14] [slS S,slU m,.ptr 0 0 0,o0 1 nx.length,o0 2 ws.length,vi s,o0 3 so.length,.own 4 0 n (some n),vi i,vi k] [lB 73 (gG g [slW W,slU M]),lD 22 (.int .u64) (Mi nx),.live (.nest kW ws none),lD 3 (.int .i64) so,.live (.nest kW (addT w k.toNat th0) none)]):=by
 have hi1:IntKind.i64.wrap (i+1)=i+1:=by have:=F.words;exact wrG (by omega) (by omega)
 have hn:n≤32:=by
  rw[←hwl,←hw];exact F.long _ (getD_in (by omega))
 induction z with
 |zero=>
  intro k k0 hk;have hkn:addT w n th0=addT w k.toNat th0:=by rw[show k.toNat=n by omega]
  rw[hkn] at hx;refine gets_vc (flag [2000032,2000067,2000081,2000106] spNa) (fun k=> [[1,2,3,8,9,10],[1,2,3,8,9,10,11,12,13],[1,2,3,8,9,10,11,12,13,14],[1,2,3,8,9,10,12,15]].getD k []) (fun k=>if k=99 then [⟨4000007,27,WT⟩] else if k=0∨k=3 then [⟨4000009,27,WT⟩] else [⟨4000009,27,WT⟩,⟨11,3,.int .i64⟩]) 400 (.fork (.hd 2) (.hd 1)) (V:=vq20 g W M S m nx ws s so n th0 i w k) hmG (fun G R=>by kernel_rfl) ?_;unfold vq20;try dsimp only
  simp only[hi1];simp (disch:=omega) only[oo,oop,oq,reduceCtorEq];repeat' first|with_reducible apply And.intro|intro _|rfl|omega|assumption|trivial|exact room3 (by omega)|exact room46 (by omega)|(exfalso;simp_all;done)
 |succ z ih=>
  intro k k0 hk;have hk1:IntKind.i64.wrap (k+1)=k+1:=wrG (by omega) (by omega);have hx2:=ih (k+1) (by omega) (by omega);have he:(addT w k.toNat th0).set k.toNat ((addT w k.toNat th0).getD k.toNat []++[w.getD k.toNat 0])=addT w (k+1).toNat th0:=by
   rw[show(k+1).toNat=k.toNat+1 by omega];rfl
  have hr:((addT w k.toNat th0).getD k.toNat []).length≤1000:=by
   rw[addT_get,if_neg (by omega)];exact hb _
  have hl:=addT_len w k.toNat th0;refine gets_vc (flag [2000032,2000067,2000081,2000106] spNa) (fun k=> [[1,2,3,8,9,10],[1,2,3,8,9,10,11,12,13],[1,2,3,8,9,10,11,12,13,14],[1,2,3,8,9,10,12,15]].getD k []) (fun k=>if k=99 then [⟨4000007,27,WT⟩] else if k=0∨k=3 then [⟨4000009,27,WT⟩] else [⟨4000009,27,WT⟩,⟨11,3,.int .i64⟩]) 400 (.fork (.hd 2) (.hd 1)) (V:=vq20 g W M S m nx ws s so n th0 i w k) hmG (fun G R=>by kernel_rfl) ?_;unfold vq20;try dsimp only
  simp only[Ty.dflt,hk1,hw,take_len,List.drop_zero,List.take_length,Mi_getD,Mi_len,Nt_Mi,Int.toNat_natCast,Mi_set,Nat.zero_add,set_same,List.length_append,List.length_cons,List.length_nil,List.length_set,List.take_zero,List.nil_append,takeSn,take_one,he];simp (disch:=omega) only[oo,oop,oq,reduceCtorEq];repeat' first|with_reducible apply And.intro|intro _|rfl|omega|assumption|trivial|exact room3 (by omega)|exact room46 (by omega)|(exfalso;simp_all;done)
theorem e101w (g:Gr) (W:List (List Int)) (M:List Nat) (S:List Slt) (m:List Nat) (nx:List Nat) (ws:List (List Int)) (s:Int) (F:Fine W S m) (s0:0≤s) (s1:s<S.length) (cs:List Int) (hcs:(S.getD s.toNat (0,false,[])).2.2=cs) (n:Nat) (hn:cs.length=n) (f:List Int→Bool) (hf:f=fitL m cs) (hws:ws.length≤1000) (r1:List Nat) (r2:List (List Int)) (hx:GetsK Tryd.prog Tryd.f146.results.toList [none,none] (KK n101) 0 ((.tup [o0 0 r1.length,o0 1 r2.length]),[],[.data 22 (.int .u64) (Mi r1),.nest kW r2 none]) 3 (stOf 112 [1,2,3,8,9,10,12,15] [slS S,slU m,.ptr 0 0 0,o0 1 nx.length,o0 2 (ws++[idxF f 0 W]).length,vi s,.own 3 0 n (some n),vi 0] [lB 73 (gG g [slW W,slU M]),lD 22 (.int .u64) (Mi nx),.live (.nest kW (ws++[idxF f 0 W]) none),.live (.nest kW (colsF f n W) none)])) (z:Nat):∀(i:Int),0≤i→i+z=W.length→GetsK Tryd.prog Tryd.f146.results.toList [none,none] (KK n101) 0 ((.tup [o0 0 r1.length,o0 1 r2.length]),[],[.data 22 (.int .u64) (Mi r1),.nest kW r2 none]) 1 (stOf 112 [1,2,3,8,9,10,11,12,13] [slS S,slU m,.ptr 0 0 0,o0 1 nx.length,o0 2 ws.length,vi s,o0 3 (idxF f 0 (W.take i.toNat)).length,.own 4 0 n (some n),vi i] [lB 73 (gG g [slW W,slU M]),lD 22 (.int .u64) (Mi nx),.live (.nest kW ws none),lD 3 (.int .i64) (idxF f 0 (W.take i.toNat)),.live (.nest kW (colsF f n (W.take i.toNat)) none)]):=by
 have hc1:=F.cells _ (getD_in (d:=(0,false,[])) (k:=s.toNat) (by omega));rw[hcs] at hc1;have hfw:=F.words;induction z with
 |zero=>
  intro i i0 hi;rw[List.take_of_length_le (by omega)];rw[List.length_append,List.length_cons,List.length_nil] at hx;refine gets_vc (flag [2000032,2000067,2000081,2000106] spNa) (fun k=> [[1,2,3,8,9,10],[1,2,3,8,9,10,11,12,13],[1,2,3,8,9,10,11,12,13,14],[1,2,3,8,9,10,12,15]].getD k []) (fun k=>if k=99 then [⟨4000007,27,WT⟩] else if k=0∨k=3 then [⟨4000009,27,WT⟩] else [⟨4000009,27,WT⟩,⟨11,3,.int .i64⟩]) 400 (.fork (.fork (.hd 1) (.hd 2)) (.hd 3)) (V:=fun G R=>let yy0:=(S.getD s.toNat tS.dflt);let yy1:=(Row.box 73 (gG g [sL tI.sl W,sL tU (Mi M)]));let yy3:=(idxF f (0:Int) W);let yy4:=(NK.mk 27 tI.sl 0 3 tI);let yy6:=(W.getD i.toNat tI.sl.dflt);(decide (i<W.length)=true→0≤s∧s<S.length∧0≤i∧i<W.length∧cP 156 [] [sL tU (Mi (Nt (Mi m))),D.agg [vi yy0.fst,vb yy0.snd.fst,sL tI yy0.snd.snd],sL tI yy6] (vb (fitL (Nt (Mi m)) yy0.snd.snd yy6)) [] []∧Mi m=Mi (Nt (Mi m))∧vE yy0.fst yy0.fst∧Value.bool yy0.snd.fst=Value.bool yy0.snd.fst∧yy0.snd.snd=yy0.snd.snd∧W.getD i.toNat tI.sl.dflt=W.getD i.toNat tI.sl.dflt∧((!fitL (Nt (Mi m)) yy0.snd.snd yy6)=true→sK n101 1∧G 1 (stOf 112 [1,2,3,8,9,10,11,12,13] [sL tS S,sL tU (Mi m),p0,o0 1 nx.length,o0 2 ws.length,vi s,o0 3 yy3.length,D.own 4 0 n (some n),vi (IntKind.i64.wrap (i+1))] [Slot.live yy1,lD 22 tU (Mi nx),Slot.live (Row.nest yy4 ws none),lD 3 tI yy3,Slot.live (Row.nest yy4 (colsF f n W) none)]))∧((!fitL (Nt (Mi m)) yy0.snd.snd yy6)=false→rM 3 (yy3.length+1)∧sK n101 2∧G 2 (stOf 112 [1,2,3,8,9,10,11,12,13,14] [sL tS S,sL tU (Mi m),p0,o0 1 nx.length,o0 2 ws.length,vi s,o0 3 (yy3.length+1),D.own 4 0 n (some n),vi i,vi 0] [Slot.live yy1,lD 22 tU (Mi nx),Slot.live (Row.nest yy4 ws none),lD 3 tI (List.take yy3.length (List.drop 0 yy3)++List.take 1 (List.drop 0 [i])),Slot.live (Row.nest yy4 (colsF f n W) none)])))∧(decide (i<W.length)=false→1=1∧rM 27 (ws.length+1)∧sK n101 3∧G 3 (stOf 112 [1,2,3,8,9,10,12,15] [sL tS S,sL tU (Mi m),p0,o0 1 nx.length,o0 2 (ws.length+1),vi s,D.own 3 0 n (some n),vi 0] [Slot.live yy1,lD 22 tU (Mi nx),Slot.live (Row.nest yy4 (List.take ws.length ws++[List.take yy3.length (List.drop 0 yy3)]) none),Slot.live (Row.nest yy4 (colsF f n W) none)]))) hmG (fun G R=>by kernel_rfl) ?_
  try dsimp only
  simp only[take_len,List.drop_zero,List.take_length,Mi_getD,Mi_len,Nt_Mi,Int.toNat_natCast,Mi_set,Nat.zero_add,set_same,List.length_append,List.length_cons,List.length_nil,List.length_set,List.take_zero,List.nil_append];simp (disch:=omega) only[oo,oop,oq,reduceCtorEq];repeat' first|with_reducible apply And.intro|intro _|rfl|omega|assumption|trivial|exact room3 (by omega)|exact room46 (by omega)|(exfalso;simp_all;done)
 |succ z ih=>
  intro i i0 hi;have hi1:IntKind.i64.wrap (i+1)=i+1:=wrG (by omega) (by omega);have ht:=take_succ_at ([]:List Int) W i0 (by omega);obtain⟨w,hw⟩:∃w,W.getD i.toNat []=w:=⟨_,rfl⟩;have hwl:w.length≤32:=by rw[←hw];exact F.long _ (getD_in (by omega))
  rw[hw] at ht;have htl:(W.take i.toNat).length=i.toNat:=by rw[List.length_take];omega
  have hil:(idxF f 0 (W.take i.toNat)).length≤i.toNat:=Nat.le_trans (idx_len f _ 0) (Nat.le_of_eq htl);have hx2:=ih (i+1) (by omega) (by omega);rw[ht,idx_snoc,htl,show(0:Int)+(i.toNat:Int)=i by omega] at hx2;have c1:=d126 m (S.getD s.toNat (0,false,[])).1 (S.getD s.toNat (0,false,[])).2.1 cs w (by omega) F.small hc1.2;obtain⟨V,hV⟩:∃V,W.take i.toNat=V:=⟨_,rfl⟩;rw[hV] at hx2 hil htl⊢;have hcol:∀j,((colsF f n V).getD j []).length≤1000:=by
   intro j;rcases Nat.lt_or_ge j n with h|h
   ·rw[cols_get f V h,List.length_map];have:=List.length_filter_le f V;omega
   ·rw[gE,List.getElem?_eq_none (by rw[cols_len];exact h)];simp
  refine gets_vc (flag [2000032,2000067,2000081,2000106] spNa) (fun k=> [[1,2,3,8,9,10],[1,2,3,8,9,10,11,12,13],[1,2,3,8,9,10,11,12,13,14],[1,2,3,8,9,10,12,15]].getD k []) (fun k=>if k=99 then [⟨4000007,27,WT⟩] else if k=0∨k=3 then [⟨4000009,27,WT⟩] else [⟨4000009,27,WT⟩,⟨11,3,.int .i64⟩]) 400 (.fork (.fork (.hd 1) (.hd 2)) (.hd 3)) (V:=fun G R=>let yy0:=(S.getD s.toNat tS.dflt);let yy1:=(Row.box 73 (gG g [sL tI.sl W,sL tU (Mi M)]));let yy3:=(idxF f (0:Int) V);let yy4:=(NK.mk 27 tI.sl 0 3 tI);let yy6:=(W.getD i.toNat tI.sl.dflt);(decide (i<W.length)=true→0≤s∧s<S.length∧0≤i∧i<W.length∧cP 156 [] [sL tU (Mi (Nt (Mi m))),D.agg [vi yy0.fst,vb yy0.snd.fst,sL tI yy0.snd.snd],sL tI yy6] (vb (fitL (Nt (Mi m)) yy0.snd.snd yy6)) [] []∧Mi m=Mi (Nt (Mi m))∧vE yy0.fst yy0.fst∧Value.bool yy0.snd.fst=Value.bool yy0.snd.fst∧yy0.snd.snd=yy0.snd.snd∧W.getD i.toNat tI.sl.dflt=W.getD i.toNat tI.sl.dflt∧((!fitL (Nt (Mi m)) yy0.snd.snd yy6)=true→sK n101 1∧G 1 (stOf 112 [1,2,3,8,9,10,11,12,13] [sL tS S,sL tU (Mi m),p0,o0 1 nx.length,o0 2 ws.length,vi s,o0 3 yy3.length,D.own 4 0 n (some n),vi (IntKind.i64.wrap (i+1))] [Slot.live yy1,lD 22 tU (Mi nx),Slot.live (Row.nest yy4 ws none),lD 3 tI yy3,Slot.live (Row.nest yy4 (colsF f n V) none)]))∧((!fitL (Nt (Mi m)) yy0.snd.snd yy6)=false→rM 3 (yy3.length+1)∧sK n101 2∧G 2 (stOf 112 [1,2,3,8,9,10,11,12,13,14] [sL tS S,sL tU (Mi m),p0,o0 1 nx.length,o0 2 ws.length,vi s,o0 3 (yy3.length+1),D.own 4 0 n (some n),vi i,vi 0] [Slot.live yy1,lD 22 tU (Mi nx),Slot.live (Row.nest yy4 ws none),lD 3 tI (List.take yy3.length (List.drop 0 yy3)++List.take 1 (List.drop 0 [i])),Slot.live (Row.nest yy4 (colsF f n V) none)])))∧(decide (i<W.length)=false→1=1∧rM 27 (ws.length+1)∧sK n101 3∧G 3 (stOf 112 [1,2,3,8,9,10,12,15] [sL tS S,sL tU (Mi m),p0,o0 1 nx.length,o0 2 (ws.length+1),vi s,D.own 3 0 n (some n),vi 0] [Slot.live yy1,lD 22 tU (Mi nx),Slot.live (Row.nest yy4 (List.take ws.length ws++[List.take yy3.length (List.drop 0 yy3)]) none),Slot.live (Row.nest yy4 (colsF f n V) none)]))) hmG (fun G R=>by kernel_rfl) ?_
  try dsimp only
  simp only[Ty.dflt,hi1,hw,hcs,take_len,List.drop_zero,List.take_length,Mi_getD,Mi_len,Nt_Mi,Int.toNat_natCast,Mi_set,Nat.zero_add,set_same,List.length_append,List.length_cons,List.length_nil,List.length_set,List.take_zero,List.nil_append,takeSn,take_one,←hf];rw[←hf] at c1;rcases Bool.eq_false_or_eq_true (f w) with h|h
  ·have hle:w.length=n:=by
    rw[hf] at h;rw[←hn];exact((fit_iff m cs w).1 h).1
   rw[h,if_pos rfl,←cols_yes h] at hx2;rw[h] at c1;have hx3:=e101k g W M S m nx ws s F s0 s1 (idxF f 0 V++[i]) n (colsF f n V) i i0 (by omega) (cols_len f n V) hcol w hw hle r1 r2 hx2 n 0 (by omega) (by omega);rw[List.length_append,List.length_cons,List.length_nil] at hx3;simp only[h];simp (disch:=omega) only[oo,oop,oq,reduceCtorEq];repeat' first|with_reducible apply And.intro|intro _|rfl|omega|assumption|trivial|exact room3 (by omega)|exact room46 (by omega)|(exfalso;simp_all;done)
  ·rw[h,if_neg (by simp),List.append_nil,cols_no h] at hx2;rw[h] at c1;simp only[h];simp (disch:=omega) only[oo,oop,oq,reduceCtorEq];repeat' first|with_reducible apply And.intro|intro _|rfl|omega|assumption|trivial|exact room3 (by omega)|exact room46 (by omega)|(exfalso;simp_all;done)
theorem words_snoc (W:List (List Int)) (S:List Slt) (s:Slt) (m:List Nat):wordsF W (S++[s]) m=wordsF W S m++[idxF (fitL m s.2.2) 0 W]:=by simp[wordsF]
def vq21 (g:Gr) (W:List (List Int)) (M:List Nat) (S:List Slt) (m:List Nat) (s:Int) (nx:List Nat) (ws:List (List Int)) (G:GT) (R:RT):Prop:=let yy0:=(↑(List.length (S.getD s.toNat tS.dflt).snd.snd):Int);(decide (s<S.length)=true→0≤s∧s<S.length∧(0:Int)≤yy0∧yy0≤yy0∧yy0≤(9223372036854775807:Int)∧yy0.toNat*24≤281474976710656∧sK n101 1∧G 1 (stOf 112 [1,2,3,8,9,10,11,12,13] [sL tS S,sL tU (Mi m),p0,o0 1 nx.length,o0 2 ws.length,vi s,o0 3 0,D.own 4 0 yy0.toNat (some yy0.toNat),vi 0] [lB 73 (gG g [sL tI.sl W,sL tU (Mi M)]),lD 22 tU (Mi nx),Slot.live (Row.nest (NK.mk 27 tI.sl 0 3 tI) ws none),lD 3 tI [],Slot.live (Row.nest (NK.mk 27 tI.sl 0 3 tI) (List.replicate yy0.toNat []) none)]))∧(decide (s<S.length)=false→R (D.tup [o0 0 nx.length,o0 1 ws.length],[],[Row.data 22 tU (Mi nx),Row.nest (NK.mk 27 tI.sl 0 3 tI) ws none]))
theorem e101 (g:Gr) (W:List (List Int)) (M:List Nat) (S:List Slt) (m:List Nat) (F:Fine W S m) (r1:List Nat) (r2:List (List Int)) (h2:wordsF W S m=r2) (z:Nat):∀(s:Int) (nx:List Nat) (ws:List (List Int)),0≤s→s+z=S.length→nx.length=m.length→Smalls nx→onceFrom W m (S.drop s.toNat) nx=r1→ws=wordsF W (S.take s.toNat) m→GetsK Tryd.prog Tryd.f146.results.toList [none,none] (KK n101) 0 ((.tup [o0 0 r1.length,o0 1 r2.length]),[],[.data 22 (.int .u64) (Mi r1),.nest kW r2 none]) 0 (stOf 112 [1,2,3,8,9,10] [slS S,slU m,.ptr 0 0 0,o0 1 nx.length,o0 2 ws.length,vi s] [lB 73 (gG g [slW W,slU M]),lD 22 (.int .u64) (Mi nx),.live (.nest kW ws none)]):=by
 have hsl:=F.slots;induction z with
 |zero=>
  intro s nx ws s0 hs hnl hsm h1 hws;rw[List.drop_eq_nil_of_le (by omega)] at h1;rw[List.take_of_length_le (by omega),h2] at hws;have h1:nx=r1:=h1;subst h1;subst hws;refine gets_vc (flag [2000032,2000067,2000081,2000106] spNa) (fun k=> [[1,2,3,8,9,10],[1,2,3,8,9,10,11,12,13],[1,2,3,8,9,10,11,12,13,14],[1,2,3,8,9,10,12,15]].getD k []) (fun k=>if k=99 then [⟨4000007,27,WT⟩] else if k=0∨k=3 then [⟨4000009,27,WT⟩] else [⟨4000009,27,WT⟩,⟨11,3,.int .i64⟩]) 400 (.fork (.hd 1) .stop) (V:=vq21 g W M S m s nx ws) hmG (fun G R=>by kernel_rfl) ?_;unfold vq21;try dsimp only
  simp (disch:=omega) only[oo,oop,oq,reduceCtorEq];repeat' first|with_reducible apply And.intro|intro _|rfl|omega|assumption|trivial|exact room3 (by omega)|exact room46 (by omega)|(exfalso;simp_all;done)
 |succ z ih=>
  intro s nx ws s0 hs hnl hsm h1 hws;have hd:=drop_at (xs:=S) (i:=s) ((0,false,[]):Slt) s0 (by omega);have ht:=take_succ_at ((0,false,[]):Slt) S s0 (by omega);have hc1:=F.cells _ (getD_in (d:=(0,false,[])) (k:=s.toNat) (by omega));obtain⟨cs,hcs⟩:∃cs,(S.getD s.toNat (0,false,[])).2.2=cs:=⟨_,rfl⟩;rw[hd] at h1;simp only[onceFrom,hcs] at h1;rw[hcs] at hc1;have hwl:ws.length=s.toNat:=by rw[hws];simp[wordsF];omega
  have hx:=ih (s+1) (meetL (thereF W (fitL m cs)) 0 cs nx) (ws++[idxF (fitL m cs) 0 W]) (by omega) (by omega) (by rw[meet_len];exact hnl) (meet_smalls hsm) h1 (by rw[ht,words_snoc,hws,hcs]);have hx3:=e101c g W M S m cs.length (fitL m cs) (ws++[idxF (fitL m cs) 0 W]) s F s0 (by omega) cs hcs rfl r1 r2 _ hx cs.length 0 nx (by omega) (by omega) hnl hsm rfl;have hx1:=e101w g W M S m nx ws s F s0 (by omega) cs hcs cs.length rfl (fitL m cs) rfl (by omega) r1 r2 hx3 W.length 0 (by omega) (by omega);simp only[show(0:Int).toNat=0 by rfl,List.take_zero,cols_nil,idxF,List.length_nil] at hx1;refine gets_vc (flag [2000032,2000067,2000081,2000106] spNa) (fun k=> [[1,2,3,8,9,10],[1,2,3,8,9,10,11,12,13],[1,2,3,8,9,10,11,12,13,14],[1,2,3,8,9,10,12,15]].getD k []) (fun k=>if k=99 then [⟨4000007,27,WT⟩] else if k=0∨k=3 then [⟨4000009,27,WT⟩] else [⟨4000009,27,WT⟩,⟨11,3,.int .i64⟩]) 400 (.fork (.hd 1) .stop) (V:=vq21 g W M S m s nx ws) hmG (fun G R=>by kernel_rfl) ?_;unfold vq21;try dsimp only
  simp only[Ty.dflt,hcs,Int.toNat_natCast];simp (disch:=omega) only[oo,oop,oq,reduceCtorEq];repeat' first|with_reducible apply And.intro|intro _|rfl|omega|assumption|trivial|exact room3 (by omega)|exact room46 (by omega)|(exfalso;simp_all;done)
theorem d101 (g:Gr) (W:List (List Int)) (M:List Nat) (S:List Slt) (m:List Nat) (F:Fine W S m):Con Tryd.prog 146 [] [.agg (gG g [slW W,slU M]),slS S,slU m] ((.tup [o0 0 (onceF W S m).length,o0 1 (wordsF W S m).length])) [] [.data 22 (.int .u64) (Mi (onceF W S m)),.nest kW (wordsF W S m) none]:=by
 refine con_vc (how:=[none,none]) (c:=n101) (K:=(KK n101)) (flag [2000032,2000067,2000081,2000106] spNa) (fun k=> [[1,2,3,8,9,10],[1,2,3,8,9,10,11,12,13],[1,2,3,8,9,10,11,12,13,14],[1,2,3,8,9,10,12,15]].getD k []) (fun k=>if k=99 then [⟨4000007,27,WT⟩] else if k=0∨k=3 then [⟨4000009,27,WT⟩] else [⟨4000009,27,WT⟩,⟨11,3,.int .i64⟩]) 400 (.hd 0) (V:=fun G R=>rM 22 (0+(Mi m).length)∧sK n101 0∧G 0 (stOf 112 [1,2,3,8,9,10] [sL tS S,sL tU (Mi m),p0,o0 1 (0+(Mi m).length),o0 2 0,vi 0] [lB 73 (gG g [sL tI.sl W,sL tU (Mi M)]),lD 22 tU (List.take 0 (List.drop 0 [])++Mi m),Slot.live (Row.nest (NK.mk 27 tI.sl 0 3 tI) [] none)])) hmG Tryd.func146 (by kernel_rfl) (by kernel_rfl) (fun G R=>by kernel_rfl) ?_;try dsimp only
 try dsimp only
 have hx:=e101 g W M S m F _ _ rfl S.length 0 m [] (by omega) (by omega) rfl F.small rfl rfl;simp only[Nat.zero_add,Mi_len,List.take_zero,List.drop_zero,List.nil_append,List.length_nil] at hx⊢;have hsz:=F.size;simp (disch:=omega) only[oo,oop,oq,reduceCtorEq];repeat' first|with_reducible apply And.intro|intro _|rfl|omega|assumption|trivial|exact room80 (by omega)|exact hx
theorem d65s (g:Gr):Con Tryd.prog 36 [] [g.d] (slS (slotsF g)) [] []:=con_frzS rfl (d65 g)
theorem d100s (g:Gr):Con Tryd.prog 38 [] [g.d] (slS (slotsF g)) [] []:=con_frzS rfl (d100 g)
theorem Mi_take (m:List Nat):(Mi m).take m.length=Mi m:=List.take_of_length_le (by rw[Mi_len];omega)
def markCells:List Int→List Bool→List Bool
 | [],b=>b
 |c::cs,b=>markCells cs (b.set c.toNat true)
def markSlots:List Slt→List Bool→List Bool
 | [],b=>b
 |s::ss,b=>markSlots ss (markCells s.2.2 b)
def restB (sd:List Bool) (m:List Nat):Nat→Int→Bool
 |0,_=>true
 |z+1,c=>(!sd.getD c.toNat false||m.getD c.toNat 0 !=0)&&restB sd m z (c+1)
theorem markCells_len:∀(cs:List Int) (b:List Bool),(markCells cs b).length=b.length
 | [],_=>rfl
 |c::cs,b=>by simp only[markCells];rw[markCells_len cs];simp
theorem seatCells_len (M:List Nat):∀(cs:List Int) (m:List Nat),(seatCells M cs m).length=m.length
 | [],_=>rfl
 |c::cs,m=>by simp only[seatCells];rw[seatCells_len M cs];simp
theorem seatSlots_len (M:List Nat):∀(ss:List Slt) (m:List Nat),(seatSlots M ss m).length=m.length
 | [],_=>rfl
 |s::ss,m=>by simp only[seatSlots];rw[seatSlots_len M ss,seatCells_len]
theorem seatCells_small {M:List Nat} (hM:Smalls M):∀(cs:List Int) {m:List Nat},Smalls m→Smalls (seatCells M cs m)
 | [],_,h=>h
 |c::cs,m,h=>by
  simp only[seatCells];refine seatCells_small hM cs ?_;intro x hx;rcases List.mem_or_eq_of_mem_set hx with hx|hx
  ·exact h x hx
  ·rw[hx];exact hM.at _
theorem seatSlots_small {M:List Nat} (hM:Smalls M):∀(ss:List Slt) {m:List Nat},Smalls m→Smalls (seatSlots M ss m)
 | [],_,h=>h
 |s::ss,m,h=>by
  simp only[seatSlots];exact seatSlots_small hM ss (seatCells_small hM _ h)
theorem mark_get:∀(cs:List Int) (b:List Bool) (j:Nat),j<b.length→(markCells cs b).getD j false=(b.getD j false||cs.any (fun c=>c.toNat==j))
 | [],b,j,_=>by simp[markCells]
 |c::cs,b,j,hj=>by
  simp only[markCells,List.any_cons];rw[mark_get cs _ j (by simpa using hj),getD_set_gen];by_cases h:c.toNat=j
  ·subst h;rw[if_pos ⟨rfl,hj⟩];simp
  ·rw[if_neg (fun e=>h e.1),beq_eq_false_iff_ne.2 h,Bool.false_or]
theorem markS_get:∀(ss:List Slt) (b:List Bool) (j:Nat),j<b.length→(markSlots ss b).getD j false=(b.getD j false||ss.any (fun s=>s.2.2.any (fun c=>c.toNat==j)))
 | [],b,j,_=>by simp[markSlots]
 |s::ss,b,j,hj=>by
  simp only[markSlots,List.any_cons];rw[markS_get ss _ j (by rw[markCells_len];exact hj),mark_get _ b j hj,Bool.or_assoc]
theorem rest_iff (sd:List Bool) (m:List Nat):∀(z:Nat) (c:Int),0≤c→(restB sd m z c=true↔∀j:Nat,c.toNat≤j→j<c.toNat+z→sd.getD j false=true→m.getD j 0≠0)
 |0,c,_=>by simp[restB];intros;omega
 |z+1,c,h=>by
  simp only[restB,Bool.and_eq_true,rest_iff sd m z (c+1) (by omega)];rw[show(c+1).toNat=c.toNat+1 by omega];constructor
  ·rintro⟨h1,h2⟩ j hj1 hj2 hs
   by_cases e:j=c.toNat
   ·subst e;rw[hs] at h1;simpa using h1
   ·exact h2 j (by omega) (by omega) hs
  ·intro h1;refine⟨?_,fun j hj1 hj2 hs=>h1 j (by omega) (by omega) hs⟩;cases e:sd.getD c.toNat false with
   |false=>rfl
   |true=>simpa using h1 c.toNat (by omega) (by omega) e
theorem rest_all {S:List Slt} {m:List Nat} {n:Nat} (hn:m.length=n) (hS:∀s∈S,∀c∈s.2.2,0≤c∧c<n):restB (markSlots S (List.replicate n false)) m n 0=S.all fun s=>s.2.2.all fun c=>m.getD c.toNat 0 !=0:=by
 apply Bool.eq_iff_iff.2;rw[rest_iff _ _ _ _ (by omega),List.all_eq_true];constructor
 ·intro h s hs;rw[List.all_eq_true];intro c hc;have h1:=hS s hs c hc;have:=h c.toNat (by omega) (by omega) (by
   rw[markS_get _ _ _ (by simp;omega)];rw[Bool.or_eq_true];right
   rw[List.any_eq_true];exact⟨s,hs,by rw[List.any_eq_true];exact⟨c,hc,by simp⟩⟩)
  simpa using this
 ·intro h j _ hj hs;rw[markS_get _ _ _ (by simp;omega),Bool.or_eq_true] at hs;rcases hs with hs|hs
  ·have e:(List.replicate n false).getD j false=false:=by
    rw[gE,List.getElem?_replicate];split<;>rfl
   rw[e] at hs;cases hs
  ·rw[List.any_eq_true] at hs;obtain⟨s,h1,h2⟩:=hs;rw[List.any_eq_true] at h2;obtain⟨c,h3,h4⟩:=h2;have h5:=h s h1;rw[List.all_eq_true] at h5;have h6:=h5 c h3;rw[beq_iff_eq] at h4;rw[h4] at h6;simpa using h6
theorem Mi_inj {a b:List Nat} (h:Mi a=Mi b):a=b:=by rw[←Nt_Mi a,h,Nt_Mi]
theorem cast_bne0 (a:Nat):((a:Int) !=0)=(a !=0):=by
 apply Bool.eq_iff_iff.2;simp only[bne_iff_ne,ne_eq];omega
theorem leq_small {a b:List Nat} (h:Leq a b) (hb:Smalls b):Smalls a:=by
 intro x hx;obtain⟨j,hj,e⟩:=List.getElem_of_mem hx;have h1:a.getD j 0=x:=by rw[gE,gQ hj,e];rfl
 rw[←h1];exact Nat.lt_of_le_of_lt (sub_le fun i hi=>h j i hi) (hb.at j)
theorem checkP_zero {p:Pr} (h:checkP p=0):checkF p.g=0∧(p.W.length:Int)≤1000∧(∀w∈p.W,1≤w.length∧w.length≤32∧∀c∈w,0≤c∧c<64)∧(p.M.length:Int)=p.g.h*p.g.w:=by
 unfold checkP at h;by_cases h1:checkF p.g=0
 ·rw[if_pos h1] at h;by_cases h2:(p.W.length:Int)>1000
  ·rw[if_pos h2] at h;exact absurd h (by decide)
  ·rw[if_neg h2] at h;cases h3:p.W.any badW with
   |true=>rw[h3,if_pos rfl] at h;exact absurd h (by decide)
   |false=>
    rw[h3] at h;simp only[Bool.false_eq_true,if_false] at h;by_cases h4:(p.M.length:Int)=p.g.h*p.g.w
    ·refine⟨h1,by omega,fun w hw=> ?_,h4⟩;have hb:badW w=false:=by
      cases e:badW w with
      |false=>rfl
      |true=>
       have:p.W.any badW=true:=List.any_eq_true.2 ⟨w,hw,e⟩;rw[h3] at this;cases this
     unfold badW at hb;rw[Bool.or_eq_false_iff,Bool.or_eq_false_iff,decide_eq_false_iff_not,decide_eq_false_iff_not] at hb;refine⟨by omega,by omega,fun c hc=> ?_⟩;have ho:oddB c=false:=by
      cases e:oddB c with
      |false=>rfl
      |true=>
       have:w.any oddB=true:=List.any_eq_true.2 ⟨c,hc,e⟩;rw[hb.2] at this;cases this
     unfold oddB at ho;rw[Bool.or_eq_false_iff,decide_eq_false_iff_not,decide_eq_false_iff_not] at ho;omega
    ·rw[if_neg h4] at h;exact absurd h (by decide)
 ·rw[if_neg h1] at h;exact absurd h h1
theorem fine_of {g:Gr} {W:List (List Int)} {M:List Nat} (h:checkP ⟨g,W,M⟩=0) (hM:Smalls M):Fine W (slotsF g) M:=by
 obtain⟨h1,h2,h3,h4⟩:=checkP_zero h;simp only at h1 h2 h3 h4;have hw:=hw_in (chk0.1 h1).1 (chk0.1 h1).2.1;have hl:(slotsF g).length≤2*(g.h*g.w).toNat:=by
  unfold slotsF;rw[if_pos h1];exact sl_len g _ 0 0
 refine⟨h2,fun w hw=>(h3 w hw).2.1,by omega,fun s hs=> ?_,by omega,hM⟩;have hin:=slots_in h1 s hs;refine⟨?_,fun c hc=>by have:=hin c hc;omega⟩;unfold slotsF at hs;rw[if_pos h1] at hs;have:=(slots_open _ _ _ s hs).1;omega
structure LookOk (W:List (List Int)) (m:List Nat) (C L:List Int):Prop where
 mem:∀i∈L,0≤i∧i<W.length∧(wordAt W i).length=C.length∧∀c∈wordAt W i,0≤c∧c<64
 words:W.length≤1000
 long:L.length≤1000
 size:C.length≤300
 cells:∀c∈C,0≤c∧c<m.length
 small:Smalls m
theorem orW_len:∀(w:List Int) (k:Nat) (th:List Nat),(orW k w th).length=th.length
 | [],_,_=>rfl
 |c::w,k,th=>by simp only[orW];rw[orW_len w];simp
theorem orI_cons (W:List (List Int)) (m:List Nat) (C:List Int) (i:Int) (L:List Int) (th:List Nat):orI W m C th (i::L)=orI W m C (if fitL m C (wordAt W i) then orW 0 (wordAt W i) th else th) L:=rfl
theorem orI_len (W:List (List Int)) (m:List Nat) (C:List Int):∀(L:List Int) (th:List Nat),(orI W m C th L).length=th.length
 | [],_=>rfl
 |i::L,th=>by
  rw[orI_cons,orI_len W m C L];split
  ·exact orW_len _ _ _
  ·rfl
theorem orI_one (W:List (List Int)) (m:List Nat) (C:List Int) (i:Int) (th:List Nat):orI W m C th [i]=if fitL m C (wordAt W i) then orW 0 (wordAt W i) th else th:=rfl
theorem orI_append (W:List (List Int)) (m:List Nat) (C:List Int) (A B:List Int) (th:List Nat):orI W m C th (A++B)=orI W m C (orI W m C th A) B:=by
 unfold orI;rw[List.foldl_append]
theorem orW_small:∀(w:List Int) (k:Nat) (th:List Nat),(∀c∈w,0≤c∧c<64)→Smalls th→Smalls (orW k w th)
 | [],_,_,_,h=>h
 |c::w,k,th,hw,h=>by
  simp only[orW];refine orW_small w _ _ (fun x hx=>hw x (List.mem_cons_of_mem _ hx)) ?_;have hc:=hw c List.mem_cons_self;intro x hx;rcases List.mem_or_eq_of_mem_set hx with hx|hx
  ·exact h x hx
  ·rw[hx];refine or_lt (h.at _) ?_;unfold bitN;rw[if_neg (by omega)];exact u64_mask (by omega)
theorem orI_small (W:List (List Int)) (m:List Nat) (C:List Int):∀(L:List Int) (th:List Nat),(∀i∈L,∀c∈wordAt W i,0≤c∧c<64)→Smalls th→Smalls (orI W m C th L)
 | [],_,_,h=>h
 |i::L,th,hL,h=>by
  rw[orI_cons];refine orI_small W m C L _ (fun x hx=>hL x (List.mem_cons_of_mem _ hx)) ?_;split
  ·exact orW_small _ _ _ (hL i List.mem_cons_self) h
  ·exact h
theorem keepI_append (W:List (List Int)) (m:List Nat) (C A B:List Int):keepI W m C (A++B)=keepI W m C A++keepI W m C B:=List.filter_append ..
theorem keepI_one (W:List (List Int)) (m:List Nat) (C:List Int) (x:Int):keepI W m C [x]=if fitL m C (wordAt W x) then [x] else []:=by
 unfold keepI;rw[List.filter_cons];rfl
theorem take_set_snoc {α:Type}:∀(xs:List α) (i:Nat) (x:α),i<xs.length→(xs.set i x).take (i+1)=xs.take i++[x]
 | [],i,_,h=>by simp at h
 |a::xs,0,x,_=>by simp
 |a::xs,i+1,x,h=>by
  simp only[List.set_cons_succ,List.take_succ_cons,List.cons_append];rw[take_set_snoc xs i x (by simpa using h)]
theorem drop_set_lt {α:Type}:∀(xs:List α) (i j:Nat) (x:α),i<j→(xs.set i x).drop j=xs.drop j
 | [],i,j,x,_=>by simp
 |a::xs,i,0,x,h=>by omega
 |a::xs,0,j+1,x,_=>by simp
 |a::xs,i+1,j+1,x,h=>by
  simp only[List.set_cons_succ,List.drop_succ_cons];exact drop_set_lt xs i j x (by omega)
theorem find_facts (f:Int→Bool):∀(L:List Int) (k:Int),0≤k→(findI f k L= -1∧∀x∈L,f x=false)∨∃r:Nat,findI f k L=k+r∧r<L.length∧f (L.getD r 0)=true∧(∀x∈L.take r,f x=false)
 | [],k,_=> .inl ⟨rfl,by simp⟩
 |x::L,k,h=>by
  simp only[findI];rcases Bool.eq_false_or_eq_true (f x) with e|e
  ·rw[if_pos e];exact .inr ⟨0,by simp,by simp,by simpa using e,by simp⟩
  ·rw[if_neg (by simp[e])];rcases find_facts f L (k+1) (by omega) with⟨h1,h2⟩|⟨r,h1,h2,h3,h4⟩
   ·refine .inl ⟨h1,?_⟩;intro y hy;rcases List.mem_cons.1 hy with hy|hy
    ·rw[hy];exact e
    ·exact h2 y hy
   ·refine .inr ⟨r+1,by rw[h1];omega,by simpa using h2,by simpa using h3,?_⟩;intro y hy;rw[List.take_succ_cons] at hy;rcases List.mem_cons.1 hy with hy|hy
    ·rw[hy];exact e
    ·exact h4 y hy
theorem takeWhile_all {α:Type} (g:α→Bool):∀(L:List α),(∀x∈L,g x=true)→L.takeWhile g=L
 | [],_=>rfl
 |x::L,h=>by
  rw[List.takeWhile_cons,h x List.mem_cons_self];simp only[if_true];rw[takeWhile_all g L fun y hy=>h y (List.mem_cons_of_mem _ hy)]
theorem takeWhile_at {α:Type} (g:α→Bool) (d:α):∀(L:List α) (r:Nat),r<L.length→g (L.getD r d)=false→(∀x∈L.take r,g x=true)→L.takeWhile g=L.take r
 | [],r,h,_,_=>by simp at h
 |x::L,0,_,h2,_=>by
  rw[List.takeWhile_cons];have h2:g x=false:=by simpa using h2
  rw[h2];simp
 |x::L,r+1,h1,h2,h3=>by
  rw[List.takeWhile_cons,h3 x (by rw[List.take_succ_cons];exact List.mem_cons_self)];simp only[if_true,List.take_succ_cons];rw[takeWhile_at g d L r (by simpa using h1) (by simpa using h2) fun y hy=>h3 y (by rw[List.take_succ_cons];exact List.mem_cons_of_mem _ hy)]
theorem keepI_all {W:List (List Int)} {m:List Nat} {C:List Int}:∀{L:List Int},(∀x∈L,fitL m C (wordAt W x)=true)→keepI W m C L=L
 | [],_=>rfl
 |x::L,h=>by
  rw[show x::L=[x]++L from rfl,keepI_append,keepI_one,if_pos (h x List.mem_cons_self),keepI_all fun y hy=>h y (List.mem_cons_of_mem _ hy)]
theorem keepI_le (W:List (List Int)) (m:List Nat) (C L:List Int):(keepI W m C L).length≤L.length:=List.length_filter_le _ _
theorem bit_and (v:Nat) (hv:v<W64) {x:Int} (h0:0≤x) (h1:x<64):(IntKind.u64.wrap (((BitVec.ofInt 64 (Int.fdiv (v:Int) (2^min x.toNat 64))&&&BitVec.ofInt 64 1).toNat:Nat):Int)==0)= !hasN v x:=by
 have ha:(BitVec.ofInt 64 ((v/2^x.toNat:Nat):Int)&&&BitVec.ofInt 64 1).toNat=(v/2^x.toNat)&&&1:=andU (a:=v/2^x.toNat) (b:=1) (Nat.lt_of_le_of_lt (Nat.div_le_self _ _) hv) (by decide);rw[shr1 v h1,ha,has_and h0 h1,Nat.and_one_is_mod];have hlt:v/2^x.toNat%2<2:=Nat.mod_lt _ (by omega);have hw:IntKind.u64.wrap ((v/2^x.toNat%2:Nat):Int)=((v/2^x.toNat%2:Nat):Int):=wrU (by omega) (by omega);rw[hw];apply Bool.eq_iff_iff.2;simp only[beq_iff_eq,Bool.not_eq_true',decide_eq_false_iff_not];omega
def vq22 (n:Nat) (w:List Int) (k:Int) (th:List Nat) (G:GT) (R:RT):Prop:=(decide (k<w.length)=true→0≤k∧k<w.length∧0≤k∧k<n∧0+k.toNat< (Mi th).length∧¬w.getD k.toNat tI.dflt< (0:Int)∧0≤k∧k<n∧0+k.toNat< (Mi th).length∧sK n124 1∧G 1 (stOf 60 [3,44,45,46] [p0,sL tI w,vi w.length,vi (IntKind.i64.wrap (k+1))] [lB 33 [D.own 1 0 n (some n)],lD 22 tU ((Mi th).set (0+k.toNat) (IntKind.u64.wrap (↑(BitVec.ofInt 64 ((Mi th).getD (0+k.toNat) tU.dflt)|||BitVec.ofInt 64 (IntKind.u64.wrap ((1:Int)*(2:Int)^min (Int.toNat (w.getD k.toNat tI.dflt)) 64))).toNat:Int)))]))∧(decide (k<w.length)=false→R (vb false,[some (Row.box 33 [D.own 1 0 n (some n)]),some (Row.data 22 tU (Mi th))],[]))
theorem e124b (W:List (List Int)) (S:List Slt) (m:List Nat) (C:List Int) (n:Nat) (i:Int) (w:List Int) (hwl:w.length=n) (hn:n≤300) (hw:∀c∈w,0≤c∧c<64) (thE:List Nat) (z:Nat):∀(k:Int) (th:List Nat),0≤k→k+z=w.length→th.length=n→Smalls th→orW k.toNat (w.drop k.toNat) th=thE→GetsK Tryd.prog Tryd.f155.results.toList [none] (KK n124) 2 (vb false,[some (.box 33 [.own 1 0 n (some n)]),some (.data 22 (.int .u64) (Mi thE))],[]) 1 (stOf 60 [3,44,45,46] [.ptr 0 0 0,slI w,vi w.length,vi k] [lB 33 [.own 1 0 n (some n)],lD 22 (.int .u64) (Mi th)]):=by
 induction z with
 |zero=>
  intro k th k0 hk hth hts he;rw[List.drop_eq_nil_of_le (by omega)] at he;have he:th=thE:=he;subst he;refine gets_vc spNa (fun k=> [[0,1,2,3,16,17,18],[3,44,45,46]].getD k []) (fun _=> []) 400 (.fork (.hd 1) .stop) (V:=vq22 n w k th) hmG (fun G R=>by kernel_rfl) ?_;unfold vq22;try dsimp only
  simp (disch:=omega) only[oo,oop,oq,reduceCtorEq];repeat' first|with_reducible apply And.intro|intro _|rfl|omega|assumption|trivial|exact room3 (by omega)|(exfalso;simp_all;done)
 |succ z ih=>
  intro k th k0 hk hth hts he;rw[drop_at (xs:=w) (i:=k) (0:Int) k0 (by omega)] at he;simp only[orW] at he;have hc:=hw _ (getD_in (d:=0) (k:=k.toNat) (l:=w) (by omega));obtain⟨c,hcc⟩:∃c,w.getD k.toNat 0=c:=⟨_,rfl⟩;rw[hcc] at he hc;have hbc:bitN c=2^c.toNat:=if_neg (by omega);rw[hbc] at he;have hk1:IntKind.i64.wrap (k+1)=k+1:=wrG (by omega) (by omega);have hstep:=of_step (th.getD k.toNat 0) c hc.1 hc.2 (hts.at _);have hsh:=shl1 hc.1 hc.2;have hx:=ih (k+1) (th.set k.toNat (th.getD k.toNat 0|||2^c.toNat)) (by omega) (by omega) (by rw[List.length_set];exact hth) (by
   intro y hy;rcases List.mem_or_eq_of_mem_set hy with hy|hy
   ·exact hts y hy
   ·rw[hy];exact or_lt (hts.at _) (u64_mask (by omega))) (by rw[show(k+1).toNat=k.toNat+1 by omega] at he⊢;exact he)
  refine gets_vc spNa (fun k=> [[0,1,2,3,16,17,18],[3,44,45,46]].getD k []) (fun _=> []) 400 (.fork (.hd 1) .stop) (V:=vq22 n w k th) hmG (fun G R=>by kernel_rfl) ?_;unfold vq22;try dsimp only
  simp only[Ty.dflt,hk1,hcc,take_len,List.drop_zero,List.take_length,Mi_getD,Mi_len,Nt_Mi,Int.toNat_natCast,Mi_set,Nat.zero_add,Nat.sub_zero,orI_len,orW_len,hsh,hstep];simp (disch:=omega) only[oo,oop,oq,reduceCtorEq];repeat' first|with_reducible apply And.intro|intro _|rfl|omega|assumption|trivial|exact room3 (by omega)|(exfalso;simp_all;done)
def vq23 (W:List (List Int)) (S:List Slt) (m:List Nat) (C:List Int) (n:Nat) (i:Int) (w:List Int) (th:List Nat) (k:Int) (G:GT) (R:RT):Prop:=let yy0:=(IntKind.u64.wrap (↑(BitVec.ofInt 64 (Int.fdiv ((Mi m).getD (Int.toNat (C.getD k.toNat tI.dflt)) tU.dflt) ((2:Int)^min (Int.toNat (w.getD k.toNat tI.dflt)) 64))&&&BitVec.ofInt 64 (1:Int)).toNat:Int)==0);let yy2:=(Row.data 22 tU (Mi th));(decide (k<w.length)=true→0≤k∧k<w.length∧0≤k∧k<C.length∧(0:Int)≤C.getD k.toNat tI.dflt∧C.getD k.toNat tI.dflt< (↑(Mi m).length:Int)∧¬w.getD k.toNat tI.dflt< (0:Int)∧(yy0=true→R (vb true,[some (Row.box 33 [D.own 1 0 n (some n)]),some yy2],[]))∧(yy0=false→sK n124 0∧G 0 (stOf 60 [0,1,2,3,16,17,18] [vi i,D.rptr [D.rptr [sL tI.sl W,sL tS S,sL tU (Mi m),D.top]],D.rptr [sL tI C],p0,sL tI w,vi w.length,vi (IntKind.i64.wrap (k+1))] [lB 33 [D.own 1 0 n (some n)],Slot.live yy2])))∧(decide (k<w.length)=false→0≤i∧i<W.length∧sK n124 1∧G 1 (stOf 60 [3,44,45,46] [p0,sL tI (W.getD i.toNat tI.sl.dflt),vi (↑(List.length (W.getD i.toNat tI.sl.dflt)):Int),vi 0] [lB 33 [D.own 1 0 n (some n)],Slot.live yy2]))
theorem e124a (W:List (List Int)) (S:List Slt) (m:List Nat) (C:List Int) (n:Nat) (i:Int) (w:List Int) (i0:0≤i) (i1:i<W.length) (hwi:W.getD i.toNat []=w) (hwl:w.length=C.length) (hn:C.length=n) (hn3:n≤300) (hw:∀c∈w,0≤c∧c<64) (hC:∀c∈C,0≤c∧c<m.length) (hm:Smalls m) (th:List Nat) (hth:th.length=n) (hts:Smalls th) (z:Nat):∀(k:Int),0≤k→k+z=w.length→∀r,r=((C.drop k.toNat).zip (w.drop k.toNat)).all (fun q=>hasN (m.getD q.1.toNat 0) q.2)→GetsK Tryd.prog Tryd.f155.results.toList [none] (KK n124) 2 (vb (!r),[some (.box 33 [.own 1 0 n (some n)]),some (.data 22 (.int .u64) (Mi (if r then orW 0 w th else th)))],[]) 0 (stOf 60 [0,1,2,3,16,17,18] [vi i,envD W S m,.rptr [slI C],.ptr 0 0 0,slI w,vi w.length,vi k] [lB 33 [.own 1 0 n (some n)],lD 22 (.int .u64) (Mi th)]):=by
 induction z with
 |zero=>
  intro k k0 hk r hr;rw[List.drop_eq_nil_of_le (by omega)] at hr;have hr:r=true:=by rw[hr];rfl
  subst hr;have hx:=e124b W S m C n i w (by omega) hn3 hw (orW 0 w th) w.length 0 th (by omega) (by omega) hth hts rfl;refine gets_vc spNa (fun k=> [[0,1,2,3,16,17,18],[3,44,45,46]].getD k []) (fun _=> []) 400 (.fork (.fork .stop (.hd 0)) (.hd 1)) (V:=vq23 W S m C n i w th k) hmG (fun G R=>by kernel_rfl) ?_;unfold vq23;try dsimp only
  simp only[Ty.dflt,hwi,Bool.not_true,if_true];simp (disch:=omega) only[oo,oop,oq,reduceCtorEq];repeat' first|with_reducible apply And.intro|intro _|rfl|omega|assumption|trivial|exact room3 (by omega)|(exfalso;simp_all;done)
 |succ z ih=>
  intro k k0 hk r hr;rw[drop_at (xs:=C) (i:=k) (0:Int) k0 (by omega),drop_at (xs:=w) (i:=k) (0:Int) k0 (by omega)] at hr;simp only[List.zip_cons_cons,List.all_cons] at hr;have hk1:IntKind.i64.wrap (k+1)=k+1:=wrG (by omega) (by omega);have hx:=ih (k+1) (by omega) (by omega) _ rfl;have hc:=hC (C.getD k.toNat 0) (getD_in (by omega));have hl:=hw (w.getD k.toNat 0) (getD_in (by omega));have hb:=bit_and (m.getD (C.getD k.toNat 0).toNat 0) (hm.at _) hl.1 hl.2;refine gets_vc spNa (fun k=> [[0,1,2,3,16,17,18],[3,44,45,46]].getD k []) (fun _=> []) 400 (.fork (.fork .stop (.hd 0)) (.hd 1)) (V:=vq23 W S m C n i w th k) hmG (fun G R=>by kernel_rfl) ?_;unfold vq23;try dsimp only
  simp only[Ty.dflt,hk1,take_len,List.drop_zero,List.take_length,Mi_getD,Mi_len,Nt_Mi,Int.toNat_natCast,Mi_set,Nat.zero_add,Nat.sub_zero,orI_len,orW_len,hb];cases ho:hasN (m.getD (C.getD k.toNat 0).toNat 0) (w.getD k.toNat 0)<;>rw[ho] at hr<;>simp only[Bool.true_and,Bool.false_and] at hr<;>subst hr<;>simp only[Bool.not_false,Bool.not_true]
  all_goals simp (disch:=omega) only[oo,oop,oq,reduceCtorEq];repeat' first|with_reducible apply And.intro|intro _|rfl|omega|assumption|trivial|exact room3 (by omega)|(exfalso;simp_all;done)
theorem d124 (W:List (List Int)) (S:List Slt) (m:List Nat) (C:List Int) (n:Nat) (th:List Nat) (i:Int) (i0:0≤i) (i1:i<W.length) (hwl:(wordAt W i).length=C.length) (hn:C.length=n) (hn3:n≤300) (hw:∀c∈wordAt W i,0≤c∧c<64) (hC:∀c∈C,0≤c∧c<m.length) (hm:Smalls m) (hth:th.length=n) (hts:Smalls th):Con Tryd.prog 155 [.box 33 [.own 1 0 n (some n)],.data 22 (.int .u64) (Mi th)] [vi i,envD W S m,.rptr [slI C],.ptr 0 0 0] (vb (!fitL m C (wordAt W i))) [some (.box 33 [.own 1 0 n (some n)]),some (.data 22 (.int .u64) (Mi (orI W m C th [i])))] []:=by
 refine con_vc (how:=[none]) (c:=n124) (K:=(KK n124)) spNa (fun k=> [[0,1,2,3,16,17,18],[3,44,45,46]].getD k []) (fun _=> []) 400 (.hd 0) (V:=fun G R=>0≤i∧i<W.length∧sK n124 0∧G 0 (stOf 60 [0,1,2,3,16,17,18] [vi i,D.rptr [D.rptr [sL tI.sl W,sL tS S,sL tU (Mi m),D.top]],D.rptr [sL tI C],p0,sL tI (W.getD i.toNat tI.sl.dflt),vi (↑(List.length (W.getD i.toNat tI.sl.dflt)):Int),vi 0] [lB 33 [D.own 1 0 n (some n)],lD 22 tU (Mi th)])) hmG Tryd.func155 (by kernel_rfl) (by kernel_rfl) (fun G R=>by kernel_rfl) ?_;try dsimp only
 try dsimp only
 obtain⟨w,hwi⟩:∃w,W.getD i.toNat []=w:=⟨_,rfl⟩;rw[orI_one];unfold wordAt at hwl hw⊢;rw[hwi] at hwl hw⊢;have e:fitL m C w=(C.zip w).all (fun q=>hasN (m.getD q.1.toNat 0) q.2):=by
  unfold fitL;rw[hwl,beq_self_eq_true,Bool.true_and]
 have hx:=e124a W S m C n i w i0 i1 hwi hwl hn hn3 hw hC hm th hth hts w.length 0 (by omega) (by omega) (fitL m C w) (by rw[e];rfl);simp only[Ty.dflt,hwi];simp (disch:=omega) only[oo,oop,oq,reduceCtorEq];repeat' first|with_reducible apply And.intro|intro _|rfl|omega|assumption|trivial|exact room3 (by omega)|(exfalso;simp_all;done)
theorem e128t (W:List (List Int)) (S:List Slt) (m:List Nat) (C:List Int) (n:Nat) (L:List Int) (hn:C.length=n) (F:LookOk W m C L) (z:Nat):∀(k:Int) (th:List Nat),0≤k→k+z=L.length→th.length=n→Smalls th→∀r thE,r=findI (fun i=> !fitL m C (wordAt W i)) k (L.drop k.toNat)→thE=orI W m C th ((L.drop k.toNat).takeWhile fun i=>fitL m C (wordAt W i))→GetsK Tryd.prog Tryd.f138.results.toList [none] (KK n128) 2 (vi r,[some (.box 33 [.own 1 0 n (some n)]),some (.data 22 (.int .u64) (Mi thE))],[]) 0 (stOf 19 [0,1,7,8] [slI L,.fn 155 [envD W S m,.rptr [slI C],.ptr 0 0 0],vi L.length,vi k] [lB 33 [.own 1 0 n (some n)],lD 22 (.int .u64) (Mi th)]):=by
 have hL:=F.long;have hsz:=F.size;induction z with
 |zero=>
  intro k th k0 hk hth hts r thE hr he;rw[List.drop_eq_nil_of_le (by omega)] at hr he;have hr:r= -1:=hr;have he:thE=th:=he;subst hr;subst he;refine gets_vc spNa (fun k=> [0,1,7,8]) (fun _=> []) 400 (.fork (.fork .stop (.hd 0)) .stop) (V:=fun G R=>let yy1:=(Row.data 22 tU (Mi (orI W (Nt (Mi m)) C (Nt (Mi thE)) [L.getD k.toNat tI.dflt])));let yy2:=(Row.box 33 [D.own 1 0 n (some n)]);let yy3:=(L.getD k.toNat tI.dflt);(decide (k<L.length)=true→0≤k∧k<L.length∧cP 155 [Row.box 33 [D.own 1 0 n (some n)],Row.data 22 tU (Mi (Nt (Mi thE)))] [vi yy3,D.rptr [D.rptr [sL tI.sl W,sL tS S,sL tU (Mi (Nt (Mi m))),D.top]],D.rptr [sL tI C],p0] (D.v (Value.bool !fitL (Nt (Mi m)) C (wordAt W yy3))) [some yy2,some yy1] []∧vE yy3 yy3∧W=W∧S=S∧Mi m=Mi (Nt (Mi m))∧C=C∧0=0∧0=0∧0=0∧(Mi (orI W (Nt (Mi m)) C (Nt (Mi thE)) [L.getD k.toNat tI.dflt])).length=(Mi (Nt (Mi thE))).length∧some yy2=some yy2∧some (Row.data 22 tU (Mi thE))=some (Row.data 22 tU (Mi (Nt (Mi thE))))∧((!fitL (Nt (Mi m)) C (wordAt W yy3))=true→R (vi k,[some yy2,some yy1],[]))∧((!fitL (Nt (Mi m)) C (wordAt W yy3))=false→sK n128 0∧G 0 (stOf 19 [0,1,7,8] [sL tI L,D.fn 155 [D.rptr [D.rptr [sL tI.sl W,sL tS S,sL tU (Mi m),D.top]],D.rptr [sL tI C],p0],vi L.length,vi (IntKind.i64.wrap (k+1))] [Slot.live yy2,Slot.live yy1])))∧(decide (k<L.length)=false→R (vi (-1),[some yy2,some (Row.data 22 tU (Mi thE))],[]))) hmG (fun G R=>by kernel_rfl) ?_
  try dsimp only
  simp (disch:=omega) only[oo,oop,oq,reduceCtorEq];repeat' first|with_reducible apply And.intro|intro _|rfl|omega|assumption|trivial|exact room3 (by omega)|(exfalso;simp_all;done)
 |succ z ih=>
  intro k th k0 hk hth hts r thE hr he;rw[drop_at (xs:=L) (i:=k) (0:Int) k0 (by omega)] at hr he;have hi:=F.mem _ (getD_in (d:=0) (k:=k.toNat) (l:=L) (by omega));obtain⟨i,hii⟩:∃i,L.getD k.toNat 0=i:=⟨_,rfl⟩;rw[hii] at hr he hi;have c1:=d124 W S m C n th i hi.1 hi.2.1 hi.2.2.1 hn (by omega) hi.2.2.2 F.cells F.small hth hts;have hk1:IntKind.i64.wrap (k+1)=k+1:=wrG (by omega) (by omega);simp only[findI,List.takeWhile_cons] at hr he;have hx:=ih (k+1) (orI W m C th [i]) (by omega) (by omega) (by rw[orI_len];exact hth) (orI_small W m C [i] th (fun x hx=>by rw[List.mem_singleton.1 hx];exact hi.2.2.2) hts) _ _ rfl rfl;refine gets_vc spNa (fun k=> [0,1,7,8]) (fun _=> []) 400 (.fork (.fork .stop (.hd 0)) .stop) (V:=fun G R=>let yy1:=(Row.data 22 tU (Mi (orI W (Nt (Mi m)) C (Nt (Mi th)) [L.getD k.toNat tI.dflt])));let yy2:=(Row.box 33 [D.own 1 0 n (some n)]);let yy3:=(L.getD k.toNat tI.dflt);(decide (k<L.length)=true→0≤k∧k<L.length∧cP 155 [Row.box 33 [D.own 1 0 n (some n)],Row.data 22 tU (Mi (Nt (Mi th)))] [vi yy3,D.rptr [D.rptr [sL tI.sl W,sL tS S,sL tU (Mi (Nt (Mi m))),D.top]],D.rptr [sL tI C],p0] (D.v (Value.bool !fitL (Nt (Mi m)) C (wordAt W yy3))) [some yy2,some yy1] []∧vE yy3 yy3∧W=W∧S=S∧Mi m=Mi (Nt (Mi m))∧C=C∧0=0∧0=0∧0=0∧(Mi (orI W (Nt (Mi m)) C (Nt (Mi th)) [L.getD k.toNat tI.dflt])).length=(Mi (Nt (Mi th))).length∧some yy2=some yy2∧some (Row.data 22 tU (Mi th))=some (Row.data 22 tU (Mi (Nt (Mi th))))∧((!fitL (Nt (Mi m)) C (wordAt W yy3))=true→R (vi k,[some yy2,some yy1],[]))∧((!fitL (Nt (Mi m)) C (wordAt W yy3))=false→sK n128 0∧G 0 (stOf 19 [0,1,7,8] [sL tI L,D.fn 155 [D.rptr [D.rptr [sL tI.sl W,sL tS S,sL tU (Mi m),D.top]],D.rptr [sL tI C],p0],vi L.length,vi (IntKind.i64.wrap (k+1))] [Slot.live yy2,Slot.live yy1])))∧(decide (k<L.length)=false→R (vi (-1),[some yy2,some (Row.data 22 tU (Mi th))],[]))) hmG (fun G R=>by kernel_rfl) ?_
  try dsimp only
  simp only[Ty.dflt,hk1,hii,take_len,List.drop_zero,List.take_length,Mi_getD,Mi_len,Nt_Mi,Int.toNat_natCast,Mi_set,Nat.zero_add,Nat.sub_zero,orI_len,orW_len];rcases Bool.eq_false_or_eq_true (fitL m C (wordAt W i)) with h|h
  ·simp only[Bool.not_true,Bool.false_eq_true,if_false,if_true,orI_cons,h] at hr he;rw[←hr] at hx;simp only[orI_one,h,if_true,Bool.not_true] at hx c1;rw[←he] at hx;simp only[h,orI_one,Bool.not_true,if_true];simp (disch:=omega) only[oo,oop,oq,reduceCtorEq];repeat' first|with_reducible apply And.intro|intro _|rfl|omega|assumption|trivial|exact room3 (by omega)|(exfalso;simp_all;done)
  ·simp only[h,Bool.not_false,if_true,Bool.false_eq_true,if_false] at hr he;have he:thE=th:=he;simp only[orI_one,h,Bool.false_eq_true,if_false,Bool.not_false] at c1;subst hr;subst he;simp only[h,orI_one,Bool.not_false,Bool.false_eq_true,if_false];simp (disch:=omega) only[oo,oop,oq,reduceCtorEq];repeat' first|with_reducible apply And.intro|intro _|rfl|omega|assumption|trivial|exact room3 (by omega)|(exfalso;simp_all;done)
theorem d128t (W:List (List Int)) (S:List Slt) (m:List Nat) (C:List Int) (n:Nat) (L:List Int) (th:List Nat) (hn:C.length=n) (F:LookOk W m C L) (hth:th.length=n) (hts:Smalls th):Con Tryd.prog 138 [.box 33 [.own 1 0 n (some n)],.data 22 (.int .u64) (Mi th)] [slI L,.fn 155 [envD W S m,.rptr [slI C],.ptr 0 0 0]] (vi (findI (fun i=> !fitL m C (wordAt W i)) 0 L)) [some (.box 33 [.own 1 0 n (some n)]),some (.data 22 (.int .u64) (Mi (orI W m C th (L.takeWhile fun i=>fitL m C (wordAt W i)))))] []:=by
 refine con_vc (how:=[none]) (c:=n128) (K:=(KK n128)) spNa (fun k=> [0,1,7,8]) (fun _=> []) 400 (.hd 0) (V:=fun G R=>sK n128 0∧G 0 (stOf 19 [0,1,7,8] [sL tI L,D.fn 155 [D.rptr [D.rptr [sL tI.sl W,sL tS S,sL tU (Mi m),D.top]],D.rptr [sL tI C],p0],vi L.length,vi 0] [lB 33 [D.own 1 0 n (some n)],lD 22 tU (Mi th)])) hmG Tryd.func138 (by kernel_rfl) (by kernel_rfl) (fun G R=>by kernel_rfl) ?_;try dsimp only
 try dsimp only
 have hx:=e128t W S m C n L hn F L.length 0 th (by omega) (by omega) hth hts _ _ rfl rfl;simp only[show(0:Int).toNat=0 by rfl,List.drop_zero] at hx;simp (disch:=omega) only[oo,oop,oq,reduceCtorEq];repeat' first|with_reducible apply And.intro|intro _|rfl|omega|assumption|trivial|exact room3 (by omega)|(exfalso;simp_all;done)
def vq24 (W:List (List Int)) (S:List Slt) (m:List Nat) (C:List Int) (n:Nat) (L:List Int) (j:Int) (i:Int) (xs:List Int) (th:List Nat) (G:GT) (R:RT):Prop:=let yy1:=(Row.data 22 tU (Mi (orI W (Nt (Mi m)) C (Nt (Mi th)) [xs.getD (0+j.toNat) tI.dflt])));let yy2:=(xs.getD (0+j.toNat) tI.dflt);let yy3:=(List.take (0+i.toNat) xs++List.replicate ((↑L.length:Int).toNat-i.toNat) (0:Int)++List.drop (0+i.toNat+((↑L.length:Int).toNat-i.toNat)) xs);let yy4:=(Row.box 33 [D.own 2 0 n (some n)]);let yy6:=(↑L.length:Int);(decide (j<yy6)=true→0≤j∧j<yy6∧0+j.toNat<xs.length∧cP 155 [Row.box 33 [D.own 1 0 n (some n)],Row.data 22 tU (Mi (Nt (Mi th)))] [vi yy2,D.rptr [D.rptr [sL tI.sl W,sL tS S,sL tU (Mi (Nt (Mi m))),D.top]],D.rptr [sL tI C],p0] (D.v (Value.bool !fitL (Nt (Mi m)) C (wordAt W yy2))) [some (Row.box 33 [D.own 1 0 n (some n)]),some yy1] []∧vE yy2 yy2∧W=W∧S=S∧Mi m=Mi (Nt (Mi m))∧C=C∧1=1∧0=0∧0=0∧(Mi (orI W (Nt (Mi m)) C (Nt (Mi th)) [xs.getD (0+j.toNat) tI.dflt])).length=(Mi (Nt (Mi th))).length∧some yy4=some yy4∧some (Row.data 22 tU (Mi th))=some (Row.data 22 tU (Mi (Nt (Mi th))))∧((!!fitL (Nt (Mi m)) C (wordAt W yy2))=true→0≤i∧i<yy6∧0+i.toNat<xs.length∧sK n123 0∧G 0 (stOf 42 [0,1,5,6] [o0 0 L.length,D.fn 155 [D.rptr [D.rptr [sL tI.sl W,sL tS S,sL tU (Mi m),D.top]],D.rptr [sL tI C],D.ptr 1 0 0],vi (IntKind.i64.wrap (i+1)),vi (IntKind.i64.wrap (j+1))] [lD 3 tI (xs.set (0+i.toNat) yy2),Slot.live yy4,Slot.live yy1]))∧((!!fitL (Nt (Mi m)) C (wordAt W yy2))=false→sK n123 0∧G 0 (stOf 42 [0,1,5,6] [o0 0 L.length,D.fn 155 [D.rptr [D.rptr [sL tI.sl W,sL tS S,sL tU (Mi m),D.top]],D.rptr [sL tI C],D.ptr 1 0 0],vi i,vi (IntKind.i64.wrap (j+1))] [lD 3 tI xs,Slot.live yy4,Slot.live yy1])))∧(decide (j<yy6)=false→0≤i∧i≤yy6∧yy6≤(↑(xs.length-0):Int)∧(0:Int)≤0∧0≤i∧i≤(↑(yy3.length-0):Int)∧R (o0 0 (i.toNat-0),[some (Row.data 3 tI yy3),some yy4,some (Row.data 22 tU (Mi th))],[]))
theorem e123 (W:List (List Int)) (S:List Slt) (m:List Nat) (C:List Int) (n:Nat) (L:List Int) (hn:C.length=n) (F:LookOk W m C L) (th0:List Nat) (ht0:th0.length=n) (hs0:Smalls th0) (z:Nat):∀(j i:Int) (xs:List Int) (th:List Nat),0≤j→j+z=L.length→xs.length=L.length→xs.drop j.toNat=L.drop j.toNat→xs.take i.toNat=keepI W m C (L.take j.toNat)→th=orI W m C th0 (L.take j.toNat)→i=((keepI W m C (L.take j.toNat)).length:Int)→GetsK Tryd.prog Tryd.f154.results.toList [none] (KK n123) 3 (o0 0 (keepI W m C L).length,[some (.data 3 (.int .i64) (keepI W m C L++List.replicate (L.length-(keepI W m C L).length) 0)),some (.box 33 [.own 2 0 n (some n)]),some (.data 22 (.int .u64) (Mi (orI W m C th0 L)))],[]) 0 (stOf 42 [0,1,5,6] [o0 0 L.length,.fn 155 [envD W S m,.rptr [slI C],.ptr 1 0 0],vi i,vi j] [lD 3 (.int .i64) xs,lB 33 [.own 2 0 n (some n)],lD 22 (.int .u64) (Mi th)]):=by
 have hL:=F.long;have hsz:=F.size;induction z with
 |zero=>
  intro j i xs th j0 hj hxl hdr htk hth hi;have e0:L.take j.toNat=L:=List.take_of_length_le (by omega);rw[e0] at htk hth hi;have hkl:=keepI_le W m C L;have hin:i.toNat=(keepI W m C L).length:=by omega
  have e:List.take i.toNat xs++List.replicate (L.length-i.toNat) 0++List.drop (i.toNat+(L.length-i.toNat)) xs=keepI W m C L++List.replicate (L.length-(keepI W m C L).length) 0:=by
   rw[List.drop_eq_nil_of_le (by omega),List.append_nil,htk,hin]
  have el:(keepI W m C L++List.replicate (L.length-(keepI W m C L).length) 0).length=L.length:=by
   rw[List.length_append,List.length_replicate];omega
  refine gets_vc spNa (fun k=> [0,1,5,6]) (fun _=> []) 400 (.fork (.fork (.hd 0) (.hd 0)) .stop) (V:=vq24 W S m C n L j i xs th) hmG (fun G R=>by kernel_rfl) ?_;unfold vq24;try dsimp only
  simp only[take_len,List.drop_zero,List.take_length,Mi_getD,Mi_len,Nt_Mi,Int.toNat_natCast,Mi_set,Nat.zero_add,Nat.sub_zero,orI_len,orW_len,e,el,hxl];rw[hin,hth];simp (disch:=omega) only[oo,oop,oq,reduceCtorEq];repeat' first|with_reducible apply And.intro|intro _|rfl|omega|assumption|trivial|exact room3 (by omega)|(exfalso;simp_all;done)
 |succ z ih=>
  intro j i xs th j0 hj hxl hdr htk hth hi;have hx0:=drop_at (xs:=xs) (i:=j) (0:Int) j0 (by omega);have hl0:=drop_at (xs:=L) (i:=j) (0:Int) j0 (by omega);rw[hdr,hl0] at hx0;rw[List.cons.injEq] at hx0;have ht:=take_succ_at (0:Int) L j0 (by omega);have hmem:=F.mem _ (getD_in (d:=0) (k:=j.toNat) (l:=L) (by omega));obtain⟨v,hv⟩:∃v,L.getD j.toNat 0=v:=⟨_,rfl⟩;have hxv:xs.getD j.toNat 0=v:=by rw[←hx0.1,hv]
  rw[hv] at ht hmem;have hkl:=keepI_le W m C (L.take j.toNat);have htl:(L.take j.toNat).length=j.toNat:=by rw[List.length_take];omega
  rw[htl] at hkl;have hlen:th.length=n:=by rw[hth,orI_len];exact ht0
  have hsm:Smalls th:=by
   rw[hth];exact orI_small W m C _ th0 (fun x hx=>(F.mem x (List.mem_of_mem_take hx)).2.2.2) hs0
  have c1:=d124 W S m C n th v hmem.1 hmem.2.1 hmem.2.2.1 hn (by omega) hmem.2.2.2 F.cells F.small hlen hsm;have hj1:IntKind.i64.wrap (j+1)=j+1:=wrG (by omega) (by omega);have hi1:IntKind.i64.wrap (i+1)=i+1:=wrG (by omega) (by omega);rcases Bool.eq_false_or_eq_true (fitL m C (wordAt W v)) with h|h
  ·have hk:keepI W m C (L.take (j+1).toNat)=keepI W m C (L.take j.toNat)++[v]:=by rw[ht,keepI_append,keepI_one,if_pos h]
   have hx:=ih (j+1) (i+1) (xs.set i.toNat v) (orW 0 (wordAt W v) th) (by omega) (by omega) (by rw[List.length_set];exact hxl)
    (by rw[drop_set_lt _ _ _ _ (by omega),hx0.2])
    (by rw[show(i+1).toNat=i.toNat+1 by omega,take_set_snoc _ _ _ (by omega),hk,htk])
    (by rw[ht,orI_append,←hth,orI_one,if_pos h])
    (by rw[hk,List.length_append,List.length_cons,List.length_nil];omega)
   rw[orI_one,if_pos h,h] at c1;refine gets_vc spNa (fun k=> [0,1,5,6]) (fun _=> []) 400 (.fork (.fork (.hd 0) (.hd 0)) .stop) (V:=vq24 W S m C n L j i xs th) hmG (fun G R=>by kernel_rfl) ?_;unfold vq24;try dsimp only
   simp only[Ty.dflt,hj1,hi1,take_len,List.drop_zero,List.take_length,Mi_getD,Mi_len,Nt_Mi,Int.toNat_natCast,Mi_set,Nat.zero_add,Nat.sub_zero,orI_len,orW_len,hxv,h,orI_one,if_true,Bool.not_true,Bool.not_false];simp (disch:=omega) only[oo,oop,oq,reduceCtorEq];repeat' first|with_reducible apply And.intro|intro _|rfl|omega|assumption|trivial|exact room3 (by omega)|(exfalso;simp_all;done)
  ·have hk:keepI W m C (L.take (j+1).toNat)=keepI W m C (L.take j.toNat):=by rw[ht,keepI_append,keepI_one,if_neg (by rw[h];exact Bool.false_ne_true),List.append_nil]
   have hx:=ih (j+1) i xs th (by omega) (by omega) hxl hx0.2.symm (by rw[hk];exact htk) (by rw[ht,orI_append,←hth,orI_one,if_neg (by rw[h];exact Bool.false_ne_true)]) (by rw[hk];exact hi);rw[orI_one,if_neg (by rw[h];exact Bool.false_ne_true),h] at c1;refine gets_vc spNa (fun k=> [0,1,5,6]) (fun _=> []) 400 (.fork (.fork (.hd 0) (.hd 0)) .stop) (V:=vq24 W S m C n L j i xs th) hmG (fun G R=>by kernel_rfl) ?_;unfold vq24;try dsimp only
   simp only[Ty.dflt,hj1,hi1,take_len,List.drop_zero,List.take_length,Mi_getD,Mi_len,Nt_Mi,Int.toNat_natCast,Mi_set,Nat.zero_add,Nat.sub_zero,orI_len,orW_len,hxv,h,orI_one,Bool.false_eq_true,if_false,Bool.not_true,Bool.not_false];simp (disch:=omega) only[oo,oop,oq,reduceCtorEq];repeat' first|with_reducible apply And.intro|intro _|rfl|omega|assumption|trivial|exact room3 (by omega)|(exfalso;simp_all;done)
theorem d123 (W:List (List Int)) (S:List Slt) (m:List Nat) (C:List Int) (n:Nat) (L:List Int) (th:List Nat) (hn:C.length=n) (F:LookOk W m C L) (hth:th.length=n) (hts:Smalls th):Con Tryd.prog 154 [.data 3 (.int .i64) L,.box 33 [.own 2 0 n (some n)],.data 22 (.int .u64) (Mi th)] [o0 0 L.length,.fn 155 [envD W S m,.rptr [slI C],.ptr 1 0 0]] (o0 0 (keepI W m C L).length) [some (.data 3 (.int .i64) (keepI W m C L++List.replicate (L.length-(keepI W m C L).length) 0)),some (.box 33 [.own 2 0 n (some n)]),some (.data 22 (.int .u64) (Mi (orI W m C th L)))] []:=by
 refine con_vc (how:=[none]) (c:=n123) (K:=(KK n123)) spNa (fun k=> [0,1,5,6]) (fun _=> []) 400 (.fork .stop (.hd 0)) (V:=fun G R=>let yy0:=(List.take L.length (List.drop 0 L));let yy3:=(Row.box 33 [D.own 2 0 n (some n)]);cP 138 [Row.box 33 [D.own 1 0 n (some n)],Row.data 22 tU (Mi (Nt (Mi th)))] [sL tI yy0,D.fn 155 [D.rptr [D.rptr [sL tI.sl W,sL tS S,sL tU (Mi (Nt (Mi m))),D.top]],D.rptr [sL tI C],p0]] (vi (findI (fun i=> !fitL (Nt (Mi m)) C (wordAt W i)) (0:Int) yy0)) [some (Row.box 33 [D.own 1 0 n (some n)]),some (Row.data 22 tU (Mi (orI W (Nt (Mi m)) C (Nt (Mi th)) (List.takeWhile (fun i=>fitL (Nt (Mi m)) C (wordAt W i)) yy0))))] []∧List.take L.length (List.drop 0 L)=List.take L.length (List.drop 0 L)∧W=W∧S=S∧Mi m=Mi (Nt (Mi m))∧C=C∧1=1∧0=0∧0=0∧(Mi (orI W (Nt (Mi m)) C (Nt (Mi th)) (List.takeWhile (fun i=>fitL (Nt (Mi m)) C (wordAt W i)) yy0))).length=(Mi (Nt (Mi th))).length∧some yy3=some yy3∧some (Row.data 22 tU (Mi th))=some (Row.data 22 tU (Mi (Nt (Mi th))))∧((findI (fun i=> !fitL (Nt (Mi m)) C (wordAt W i)) (0:Int) yy0==(-1:Int))=true→R (o0 0 L.length,[some (Row.data 3 tI L),some yy3,some (Row.data 22 tU (Mi (orI W (Nt (Mi m)) C (Nt (Mi th)) (List.takeWhile (fun i=>fitL (Nt (Mi m)) C (wordAt W i)) yy0))))],[]))∧((findI (fun i=> !fitL (Nt (Mi m)) C (wordAt W i)) (0:Int) yy0==(-1:Int))=false→sK n123 0∧G 0 (stOf 42 [0,1,5,6] [o0 0 L.length,D.fn 155 [D.rptr [D.rptr [sL tI.sl W,sL tS S,sL tU (Mi m),D.top]],D.rptr [sL tI C],D.ptr 1 0 0],vi (findI (fun i=> !fitL (Nt (Mi m)) C (wordAt W i)) (0:Int) yy0),vi (IntKind.i64.wrap (findI (fun i=> !fitL (Nt (Mi m)) C (wordAt W i)) (0:Int) yy0+(1:Int)))] [lD 3 tI L,Slot.live yy3,lD 22 tU (Mi (orI W (Nt (Mi m)) C (Nt (Mi th)) (List.takeWhile (fun i=>fitL (Nt (Mi m)) C (wordAt W i)) yy0)))]))) hmG Tryd.func154 (by kernel_rfl) (by kernel_rfl) (fun G R=>by kernel_rfl) ?_
 try dsimp only
 try dsimp only
 have hL:=F.long;have c1:=d128t W S m C n L th hn F hth hts;simp only[take_len,List.drop_zero,List.take_length,Mi_getD,Mi_len,Nt_Mi,Int.toNat_natCast,Mi_set,Nat.zero_add,Nat.sub_zero,orI_len,orW_len];rcases find_facts (fun i=> !fitL m C (wordAt W i)) L 0 (by omega) with⟨h1,h2⟩|⟨r,h1,h2,h3,h4⟩
 ·have hall:∀x∈L,fitL m C (wordAt W x)=true:=fun x hx=>by simpa using h2 x hx
  rw[takeWhile_all _ L hall] at c1⊢;rw[h1] at c1⊢;rw[keepI_all hall,Nat.sub_self,List.replicate_zero,List.append_nil];simp (disch:=omega) only[oo,oop,oq,reduceCtorEq];repeat' first|with_reducible apply And.intro|intro _|rfl|omega|assumption|trivial|exact room3 (by omega)|(exfalso;simp_all;done)
 ·have h5:fitL m C (wordAt W (L.getD r 0))=false:=by simpa using h3
  have hall:∀x∈L.take r,fitL m C (wordAt W x)=true:=fun x hx=>by simpa using h4 x hx
  rw[takeWhile_at _ 0 L r h2 h5 hall] at c1⊢;rw[h1,Int.zero_add] at c1⊢;have hr1:IntKind.i64.wrap ((r:Int)+1)=(r:Int)+1:=wrG (by omega) (by omega);have ht:=take_succ_at (0:Int) L (i:=(r:Int)) (by omega) (by omega);rw[Int.toNat_natCast] at ht;have hk:keepI W m C (L.take ((r:Int)+1).toNat)=L.take r:=by rw[ht,keepI_append,keepI_one,if_neg (by rw[h5];exact Bool.false_ne_true),List.append_nil,keepI_all hall]
  have hx:=e123 W S m C n L hn F th hth hts (L.length-(r+1)) ((r:Int)+1) r L (orI W m C th (L.take r)) (by omega) (by omega) rfl rfl (by rw[hk,Int.toNat_natCast]) (by rw[ht,orI_append,orI_one,if_neg (by rw[h5];exact Bool.false_ne_true)]) (by rw[hk,List.length_take];omega);rw[hr1];have hne:((r:Int)== -1)=false:=by rw[beq_eq_false_iff_ne];omega
  rw[hne];simp (disch:=omega) only[oo,oop,oq,reduceCtorEq];repeat' first|with_reducible apply And.intro|intro _|rfl|omega|assumption|trivial|exact room3 (by omega)|(exfalso;simp_all;done)
theorem d98 (s:Int) (n k:Nat) (wt:List Bool) (td:List Int) (hn:wt.length=n) (hk:td.length=k) (hs:s<n) (hkk:k≤1000):Con Tryd.prog 144 [.box 44 [.own 1 0 n (some n)],.data 4 .bool wt,.box 27 [o0 3 k],.data 3 (.int .i64) td] [vi s,.ptr 0 0 0,.ptr 2 0 0] (.tup []) [some (.box 44 [.own 1 0 n (some n)]),some (.data 4 .bool (putF wt td s).1),some (.box 27 [o0 4 (putF wt td s).2.length]),none] [.data 3 (.int .i64) (putF wt td s).2]:=by
 refine con_vc (how:=[]) (c:=n98) (K:=(KK n98)) spNa (fun _=> []) (fun k=> [⟨1000000002,3,.int .i64⟩]) 400 (.fork (.fork .stop .stop) (.f .stop)) (V:=fun G R=>(decide (s≥(0:Int))=true→0≤s∧s<n∧0+s.toNat<wt.length∧((!wt.getD (0+s.toNat) tB.dflt)=true→0≤s∧s<n∧0+s.toNat<wt.length∧rM 3 (k+1)∧R (D.tup [],[some (Row.box 44 [D.own 1 0 n (some n)]),some (Row.data 4 tB (wt.set (0+s.toNat) true)),some (Row.box 27 [o0 4 (k+1)]),none],[Row.data 3 tI (List.take (k+1) (List.drop 0 (List.take k (List.drop 0 td)++List.take 1 (List.drop 0 [s]))))]))∧((!wt.getD (0+s.toNat) tB.dflt)=false→R (D.tup [],[some (Row.box 44 [D.own 1 0 n (some n)]),some (Row.data 4 tB wt),some (Row.box 27 [o0 4 k]),none],[Row.data 3 tI (List.take k (List.drop 0 td))])))∧(decide (s≥(0:Int))=false→false=false∧R (D.tup [],[some (Row.box 44 [D.own 1 0 n (some n)]),some (Row.data 4 tB wt),some (Row.box 27 [o0 4 k]),none],[Row.data 3 tI (List.take k (List.drop 0 td))]))) hmG Tryd.func144 (by kernel_rfl) (by kernel_rfl) (fun G R=>by kernel_rfl) ?_;try dsimp only
 simp only[Ty.dflt,Nat.zero_add,←hk,List.drop_zero,List.take_length,take_one,takeSn];by_cases h0:0≤s
 ·cases hs:wt.getD s.toNat false
  ·have e:putF wt td s=(wt.set s.toNat true,td++[s]):=if_pos ⟨h0,hs⟩;rw[e];simp only[List.length_append,List.length_cons,List.length_nil,Nat.zero_add];simp (disch:=omega) only[oo,oop,oq,reduceCtorEq];repeat' first|with_reducible apply And.intro|intro _|rfl|omega|assumption|trivial|exact room3 (by omega)|(exfalso;simp_all;done)
  ·have e:putF wt td s=(wt,td):=if_neg (fun h=>by rw[hs] at h;exact absurd h.2 (by simp));rw[e];simp (disch:=omega) only[oo,oop,oq,reduceCtorEq];repeat' first|with_reducible apply And.intro|intro _|rfl|omega|assumption|trivial|exact room3 (by omega)|(exfalso;simp_all;done)
 ·have e:putF wt td s=(wt,td):=if_neg (fun h=>h0 h.1);rw[e];simp (disch:=omega) only[oo,oop,oq,reduceCtorEq];repeat' first|with_reducible apply And.intro|intro _|rfl|omega|assumption|trivial|exact room3 (by omega)|(exfalso;simp_all;done)
theorem wrap_and {a b:Nat} (ha:a<W64) (hb:b<W64):IntKind.u64.wrap (((BitVec.ofInt 64 (a:Int)&&&BitVec.ofInt 64 (b:Int)).toNat:Nat):Int)=((a&&&b:Nat):Int):=by
 rw[andU ha hb];exact wrU' (and_lt ha)
theorem takeL {α:Type} (a b:List α):(a++b).take a.length=a:=by simp
theorem rep_small (n:Nat):Smalls (List.replicate n 0):=by
 intro x hx;rw[(List.mem_replicate.1 hx).2];decide
theorem cast_beq (a b:Nat):((a:Int)==(b:Int))=(a==b):=by
 apply Bool.eq_iff_iff.2;simp only[beq_iff_eq];omega
theorem may_snoc (W:List (List Int)) (S:List Slt) (s:Slt):mayF W (S++[s])=mayF W S++[idxF (fun w=>w.length==s.2.2.length) 0 W]:=by simp[mayF]
theorem may_len (W:List (List Int)) (S:List Slt):(mayF W S).length=S.length:=by simp[mayF]
theorem word_at {P V:List (List Int)} {v:List Int}:wordAt (P++v::V) (P.length:Int)=v:=by
 unfold wordAt;rw[Int.toNat_natCast,gE,List.getElem?_append_right (Nat.le_refl _)];simp
theorem idx_filter_gen (f g:List Int→Bool):∀(V P:List (List Int)),(idxF f (P.length:Int) V).filter (fun x=>g (wordAt (P++V) x))=idxF (fun w=>f w&&g w) (P.length:Int) V
 | [],_=>rfl
 |v::V,P=>by
  have ih:=idx_filter_gen f g V (P++[v]);rw[List.length_append,List.length_cons,List.length_nil,List.append_assoc,List.singleton_append] at ih;have e:(((P.length+(0+1):Nat)):Int)=(P.length:Int)+1:=by omega
  rw[e] at ih;simp only[idxF];rcases Bool.eq_false_or_eq_true (f v) with hf|hf
  ·rcases Bool.eq_false_or_eq_true (g v) with hg|hg
   ·simp only[hf,hg,if_true,List.filter_cons,word_at,Bool.true_and,ih]
   ·simp only[hf,hg,if_true,List.filter_cons,word_at,Bool.true_and,Bool.false_eq_true,if_false,ih]
  ·simp only[hf,Bool.false_and,Bool.false_eq_true,if_false,ih]
theorem idx_filter (f g:List Int→Bool) (W:List (List Int)):(idxF f 0 W).filter (fun x=>g (wordAt W x))=idxF (fun w=>f w&&g w) 0 W:=idx_filter_gen f g W []
theorem idx_map_gen (f:List Int→Bool):∀(V P:List (List Int)),(idxF f (P.length:Int) V).map (wordAt (P++V))=V.filter f
 | [],_=>rfl
 |v::V,P=>by
  have ih:=idx_map_gen f V (P++[v]);rw[List.length_append,List.length_cons,List.length_nil,List.append_assoc,List.singleton_append] at ih;have e:(((P.length+(0+1):Nat)):Int)=(P.length:Int)+1:=by omega
  rw[e] at ih;simp only[idxF,List.filter_cons];rcases Bool.eq_false_or_eq_true (f v) with hf|hf
  ·simp only[hf,if_true,List.map_cons,word_at,ih]
  ·simp only[hf,Bool.false_eq_true,if_false,ih]
theorem idx_map (f:List Int→Bool) (W:List (List Int)):(idxF f 0 W).map (wordAt W)=W.filter f:=idx_map_gen f W []
theorem idx_range (f:List Int→Bool):∀(V:List (List Int)) (i:Int),∀x∈idxF f i V,i≤x∧x<i+V.length
 | [],_,x,h=>by simp[idxF] at h
 |v::V,i,x,h=>by
  simp only[idxF] at h;have ih:=idx_range f V (i+1);have e:((v::V).length:Int)=V.length+1:=by simp
  split at h
  ·rcases List.mem_cons.1 h with h|h
   ·subst h;omega
   ·have:=ih x h;omega
  ·have:=ih x h;omega
theorem idx_word {f:List Int→Bool} {W:List (List Int)} {x:Int} (h:x∈idxF f 0 W):0≤x∧x<W.length∧wordAt W x∈W∧f (wordAt W x)=true:=by
 have h1:=idx_range f W 0 x h;have h2:wordAt W x∈W.filter f:=by rw[←idx_map];exact List.mem_map_of_mem h
 rw[List.mem_filter] at h2;exact⟨h1.1,by omega,h2.1,h2.2⟩
theorem keep_idx {W:List (List Int)} {m:List Nat} {C:List Int} {f:List Int→Bool} (h:∀w,fitL m C w=true→f w=true):keepI W m C (idxF f 0 W)=idxF (fitL m C) 0 W:=by
 unfold keepI;rw[idx_filter f (fitL m C)];refine idx_same fun w _=> ?_;cases hw:fitL m C w with
 |false=>simp
 |true=>rw[h w hw];rfl
theorem orW_get:∀(w:List Int) (k:Nat) (th:List Nat) (j:Nat),j<th.length→(orW k w th).getD j 0=if k≤j∧j-k<w.length then th.getD j 0|||bitN (w.getD (j-k) 0) else th.getD j 0
 | [],k,th,j,h=>by simp[orW]
 |c::w,k,th,j,h=>by
  simp only[orW];rw[orW_get w (k+1) _ j (by simpa using h)];by_cases e:k=j
  ·subst e;rw[if_neg (by omega),if_pos (by simp),getD_set_nat,if_pos ⟨rfl,h⟩];simp
  ·have hs:(th.set k (th.getD k 0|||bitN c)).getD j 0=th.getD j 0:=by rw[getD_set_nat,if_neg (fun q=>e q.1)]
   rw[hs];by_cases e2:k+1≤j∧j-(k+1)<w.length
   ·rw[if_pos e2,if_pos (by simp;omega)];rw[show j-k=(j-(k+1))+1 by omega,List.getD_cons_succ]
   ·rw[if_neg e2,if_neg (by simp;omega)]
theorem orI_get (W:List (List Int)) (m:List Nat) (C:List Int) (j:Nat) (hj:j<C.length):∀(l:List Int) (th:List Nat),j<th.length→(∀x∈l,(wordAt W x).length=C.length∧∀c∈wordAt W x,0≤c∧c<64)→(orI W m C th l).getD j 0=ofA (th.getD j 0) ((keepI W m C l).map fun x=>(wordAt W x).getD j 0)
 | [],th,_,_=>rfl
 |x::l,th,ht,h=>by
  have hx:=h x List.mem_cons_self;have hl:=fun y hy=>h y (List.mem_cons_of_mem x hy);rw[orI_cons,show x::l=[x]++l from rfl,keepI_append,keepI_one];cases hf:fitL m C (wordAt W x) with
  |false=>simpa using orI_get W m C j hj l th ht hl
  |true=>
   simp only[if_true,List.singleton_append,List.map_cons];rw[orI_get W m C j hj l _ (by rw[orW_len];exact ht) hl,orW_get _ _ _ _ ht,if_pos ⟨by omega,by omega⟩];have hc:=hx.2 ((wordAt W x).getD j 0) (getD_in (by omega));simp only[Nat.sub_zero,ofA];congr 1
   unfold bitN;rw[if_neg (by omega)];first|rfl|(rw[if_pos (by omega)])|(simp;omega)
theorem there_look {W:List (List Int)} {m:List Nat} {C:List Int} {f:List Int→Bool} (hW:∀w∈W,∀c∈w,0≤c∧c<64) (h1:∀w,fitL m C w=true→f w=true) (h2:∀w,f w=true→w.length=C.length) {k:Nat} (hk:k<C.length):(thereI W m C (idxF f 0 W)).getD k 0=thereF W (fitL m C) k:=by
 unfold thereI;rw[orI_get W m C k hk _ _ (by simpa using hk) (fun x hx=> ?_),keep_idx h1]
 ·have e:(List.replicate C.length 0).getD k 0=0:=by
   rw[gE,List.getElem?_replicate];split<;>rfl
  rw[e];unfold thereF ofN;rw[←idx_map,List.map_map];rfl
 ·obtain⟨_,_,hw,hf⟩:=idx_word hx;exact⟨h2 _ hf,hW _ hw⟩
theorem meet_same {a b:Nat→Nat}:∀{cs:List Int} {k:Nat} {m:List Nat},(∀j,k≤j→j<k+cs.length→a j=b j)→meetL a k cs m=meetL b k cs m
 | [],_,_,_=>rfl
 |c::cs,k,m,h=>by
  simp only[meetL];rw[h k (Nat.le_refl _) (by simp),meet_same fun j h1 h2=>h j (by omega) (by simp;omega)]
theorem look_same {W:List (List Int)} {m:List Nat} {s:Slt} {f:List Int→Bool} (hW:∀w∈W,∀c∈w,0≤c∧c<64) (h1:∀w,fitL m s.2.2 w=true→f w=true) (h2:∀w,f w=true→w.length=s.2.2.length):lookC W m s.2.2 (idxF f 0 W)=lookF W m s:=by
 unfold lookC lookF;exact meet_same fun j _ hj=>there_look hW h1 h2 (by omega)
theorem lost_sub (th:List Nat):∀(cs:List Int) (k:Nat) (m:List Nat),∀x∈lostL th k cs m,x∈cs
 | [],_,_,x,h=>by simp[lostL] at h
 |c::cs,k,m,x,h=>by
  simp only[lostL] at h;split at h
  ·exact List.mem_cons_of_mem _ (lost_sub th cs _ _ x h)
  ·rcases List.mem_cons.1 h with h|h
   ·rw[h];exact List.mem_cons_self
   ·exact List.mem_cons_of_mem _ (lost_sub th cs _ _ x h)
theorem lost_mem (th:List Nat):∀(cs:List Int) (k:Nat) (m:List Nat) (j:Nat),(meetL (fun k=>th.getD k 0) k cs m).getD j 0≠m.getD j 0→∃x∈lostL th k cs m,x.toNat=j
 | [],_,_,j,h=>absurd rfl h
 |c::cs,k,m,j,h=>by
  simp only[meetL,lostL] at h⊢;by_cases e:m.getD c.toNat 0&&&th.getD k 0=m.getD c.toNat 0
  ·rw[if_pos e];rw[e,set_same 0] at h;exact lost_mem th cs (k+1) m j h
  ·rw[if_neg e];by_cases hj:c.toNat=j
   ·exact⟨c,List.mem_cons_self,hj⟩
   ·have e2:(m.set c.toNat (m.getD c.toNat 0&&&th.getD k 0)).getD j 0=m.getD j 0:=by
     rw[getD_set_nat,if_neg (fun q=>hj q.1)]
    rw[←e2] at h;obtain⟨x,hx,hxj⟩:=lost_mem th cs (k+1) _ j h;exact⟨x,List.mem_cons_of_mem _ hx,hxj⟩
theorem sum_le {a b:List Nat} (hl:a.length=b.length) (h:∀c,a.getD c 0≤b.getD c 0):a.sum≤b.sum:=by
 by_cases e:a=b
 ·rw[e];exact Nat.le_refl _
 ·exact Nat.le_of_lt (sum_lt hl h e)
theorem meet_le (th:Nat→Nat) (cs:List Int) (k:Nat) (m:List Nat) (c:Nat):(meetL th k cs m).getD c 0≤m.getD c 0:=sub_le fun i hi=>((meet_bits th cs k m c i).1 hi).1
theorem lost_sum (th:List Nat):∀(cs:List Int) (k:Nat) (m:List Nat),(∀c∈cs,c.toNat<m.length)→lostL th k cs m≠ []→(meetL (fun k=>th.getD k 0) k cs m).sum<m.sum
 | [],_,_,_,h=>absurd rfl h
 |c::cs,k,m,hc,h=>by
  simp only[meetL,lostL] at h⊢;by_cases e:m.getD c.toNat 0&&&th.getD k 0=m.getD c.toNat 0
  ·rw[if_pos e] at h;rw[e,set_same 0];exact lost_sum th cs (k+1) m (fun x hx=>hc x (List.mem_cons_of_mem _ hx)) h
  ·have h1:(meetL (fun k=>th.getD k 0) (k+1) cs (m.set c.toNat (m.getD c.toNat 0&&&th.getD k 0))).sum≤(m.set c.toNat (m.getD c.toNat 0&&&th.getD k 0)).sum:=sum_le (meet_len _ _ _ _) (meet_le _ _ _ _);have h2:(m.set c.toNat (m.getD c.toNat 0&&&th.getD k 0)).sum<m.sum:=by
    refine sum_lt (by simp) (fun j=> ?_) (fun q=>e ?_)
    ·rw[getD_set_nat];split
     ·rename_i q;rw[←q.1];exact Nat.and_le_left
     ·exact Nat.le_refl _
    ·have:=congrArg (fun l=>l.getD c.toNat 0) q;rw[getD_set_nat,if_pos ⟨rfl,hc c List.mem_cons_self⟩] at this;exact this
   omega
theorem lost_nil (th:List Nat) (cs:List Int) (k:Nat) (m:List Nat) (h:lostL th k cs m=[]):meetL (fun k=>th.getD k 0) k cs m=m:=by
 refine list_ext_getD 0 (meet_len _ _ _ _) fun j hj=> ?_;by_cases e:(meetL (fun k=>th.getD k 0) k cs m).getD j 0=m.getD j 0
 ·exact e
 ·obtain⟨x,hx,_⟩:=lost_mem th cs k m j e;rw[h] at hx;simp at hx
def cntT:List Bool→Nat
 | []=>0
 |b::l=>(if b then 1 else 0)+cntT l
theorem cnt_le:∀(l:List Bool),cntT l≤l.length
 | []=>Nat.le_refl _
 |b::l=>by simp only[cntT,List.length_cons];have:=cnt_le l;split<;>omega
theorem cnt_set:∀(l:List Bool) (i:Nat) (b:Bool),i<l.length→cntT (l.set i b)+(if l.getD i false then 1 else 0)=cntT l+(if b then 1 else 0)
 | [],i,b,h=>by simp at h
 |a::l,0,b,_=>by simp only[List.set_cons_zero,cntT,List.getD_cons_zero];omega
 |a::l,i+1,b,h=>by
  simp only[List.set_cons_succ,cntT,List.getD_cons_succ];have:=cnt_set l i b (by simpa using h);omega
structure Queue (wt:List Bool) (td:List Int) (N:Nat):Prop where
 len:wt.length=N
 nodup:td.Nodup
 mem:∀s∈td,0≤s∧s<N∧wt.getD s.toNat false=true
 all:∀j,wt.getD j false=true→(j:Int)∈td
 cnt:td.length=cntT wt
theorem Queue.long {wt:List Bool} {td:List Int} {N:Nat} (q:Queue wt td N):td.length≤N:=by
 rw[q.cnt,←q.len];exact cnt_le wt
theorem getD_set_bool (l:List Bool) (c:Nat) (v:Bool) (d:Nat):(l.set c v).getD d false=if c=d∧c<l.length then v else l.getD d false:=getD_set_gen false l c v d
theorem put_queue {wt:List Bool} {td:List Int} {N:Nat} {s:Int} (q:Queue wt td N) (hs:s<N):Queue (putF wt td s).1 (putF wt td s).2 N∧(∀j,wt.getD j false=true→(putF wt td s).1.getD j false=true)∧(0≤s→(putF wt td s).1.getD s.toNat false=true):=by
 unfold putF;by_cases h:0≤s∧wt.getD s.toNat false=false
 ·rw[if_pos h];have hl:s.toNat<wt.length:=by rw[q.len];omega
  refine⟨⟨by simp[q.len],?_,?_,?_,?_⟩,?_,?_⟩
  ·rw[List.nodup_append];refine⟨q.nodup,by simp,?_⟩;intro a ha b hb e;rw[List.mem_singleton] at hb;subst hb;subst e;have:=(q.mem a ha).2.2;rw[h.2] at this;cases this
  ·intro a ha;rcases List.mem_append.1 ha with ha|ha
   ·have:=q.mem a ha;refine⟨this.1,this.2.1,?_⟩;rw[getD_set_bool];split
    ·rfl
    ·exact this.2.2
   ·rw[List.mem_singleton] at ha;subst ha;exact⟨h.1,hs,by rw[getD_set_bool,if_pos ⟨rfl,hl⟩]⟩
  ·intro j hj;rw[getD_set_bool] at hj;rw[List.mem_append];split at hj
   ·rename_i e;right
    rw[List.mem_singleton];omega
   ·exact .inl (q.all j hj)
  ·show(td++[s]).length=cntT (wt.set s.toNat true);rw[List.length_append,List.length_cons,List.length_nil,q.cnt];have:=cnt_set wt s.toNat true hl;rw[h.2] at this;simp only[Bool.false_eq_true,if_false,if_true] at this;omega
  ·intro j hj;show(wt.set s.toNat true).getD j false=true;rw[getD_set_bool];split
   ·rfl
   ·exact hj
  ·intro _;show(wt.set s.toNat true).getD s.toNat false=true;rw[getD_set_bool,if_pos ⟨rfl,hl⟩]
 ·rw[if_neg h];refine⟨q,fun j hj=>hj,fun h0=> ?_⟩;show wt.getD s.toNat false=true;cases e:wt.getD s.toNat false with
  |true=>rfl
  |false=>exact absurd ⟨h0,e⟩ h
theorem pop_queue {wt:List Bool} {td:List Int} {N:Nat} {s:Int} (q:Queue wt (s::td) N):Queue (wt.set s.toNat false) td N:=by
 have hs:=q.mem s List.mem_cons_self;have hl:s.toNat<wt.length:=by rw[q.len];omega
 have hn:=List.nodup_cons.1 q.nodup;refine⟨by simp[q.len],hn.2,?_,?_,?_⟩
 ·intro a ha;have h1:=q.mem a (List.mem_cons_of_mem _ ha);refine⟨h1.1,h1.2.1,?_⟩;rw[getD_set_bool,if_neg ?_]
  ·exact h1.2.2
  ·rintro⟨e,_⟩
   have:s=a:=by omega
   rw[this] at hn;exact hn.1 ha
 ·intro j hj;rw[getD_set_bool] at hj;split at hj
  ·cases hj
  ·rename_i e;rcases List.mem_cons.1 (q.all j hj) with h|h
   ·exact absurd ⟨by omega,hl⟩ e
   ·exact h
 ·have h1:=q.cnt;have h2:=cnt_set wt s.toNat false hl;rw[hs.2.2] at h2;simp only[if_true,Bool.false_eq_true,if_false,List.length_cons] at h1 h2;omega
def putsF (A D:List (Int×Int)):List Int→List Bool×List Int→List Bool×List Int
 | [],q=>q
 |c::cs,q=>putsF A D cs (putF (putF q.1 q.2 (A.getD c.toNat (-1,0)).1).1 (putF q.1 q.2 (A.getD c.toNat (-1,0)).1).2 (D.getD c.toNat (-1,0)).1)
theorem puts_queue {A D:List (Int×Int)} {N:Nat} (hA:∀c:Nat,(A.getD c (-1,0)).1<N) (hD:∀c:Nat,(D.getD c (-1,0)).1<N):∀(cs:List Int) (wt:List Bool) (td:List Int),Queue wt td N→Queue (putsF A D cs (wt,td)).1 (putsF A D cs (wt,td)).2 N∧(∀j,wt.getD j false=true→(putsF A D cs (wt,td)).1.getD j false=true)∧
  ∀c∈cs,∀j:Nat,((A.getD c.toNat (-1,0)).1=j∨(D.getD c.toNat (-1,0)).1=j)→(putsF A D cs (wt,td)).1.getD j false=true
 | [],wt,td,q=>⟨q,fun j h=>h,fun c hc=>by simp at hc⟩
 |c::cs,wt,td,q=>by
  obtain⟨q1,g1,p1⟩:=put_queue q (hA c.toNat);obtain⟨q2,g2,p2⟩:=put_queue q1 (hD c.toNat);obtain⟨q3,g3,p3⟩:=puts_queue hA hD cs _ _ q2;refine⟨q3,fun j h=>g3 j (g2 j (g1 j h)),fun x hx j hj=> ?_⟩;rcases List.mem_cons.1 hx with hx|hx
  ·subst hx;refine g3 j ?_;rcases hj with hj|hj
   ·refine g2 j ?_;have:=p1 (by rw[hj];omega);rw[show((A.getD x.toNat (-1,0)).1).toNat=j by rw[hj];exact Int.toNat_natCast j] at this;exact this
   ·have:=p2 (by rw[hj];omega);rw[show((D.getD x.toNat (-1,0)).1).toNat=j by rw[hj];exact Int.toNat_natCast j] at this;exact this
  ·exact p3 x hx j hj
abbrev sAtN (S:List Slt) (j:Nat):Slt:=S.getD j (0,false,[])
structure Inv (W:List (List Int)) (S:List Slt) (m0 m:List Nat) (ms:List (List Int)) (wt:List Bool) (td:List Int):Prop where
 len:m.length=m0.length
 lo:Leq (gfpF W S m0) m
 hi:Leq m m0
 may:ms.length=S.length
 ok:∀j,j<S.length→∃f:List Int→Bool,ms.getD j []=idxF f 0 W∧(∀w,fitL m (sAtN S j).2.2 w=true→f w=true)∧∀w,f w=true→w.length=(sAtN S j).2.2.length
 fine:∀j,j<S.length→wt.getD j false=false→Stable1 W m (sAtN S j)∧ms.getD j []=idxF (fitL m (sAtN S j).2.2) 0 W
 q:Queue wt td S.length
theorem Inv.done {W:List (List Int)} {S:List Slt} {m0 m:List Nat} {ms:List (List Int)} {wt:List Bool} (I:Inv W S m0 m ms wt []):m=gfpF W S m0∧ms=wordsF W S m:=by
 have hw:∀j,wt.getD j false=false:=fun j=>by
  cases e:wt.getD j false with
  |false=>rfl
  |true=>have:=I.q.all j e;simp at this
 constructor
 ·refine gfp_eq I.len (fun s hs=> ?_) I.hi I.lo;obtain⟨j,hj,e⟩:=List.getElem_of_mem hs;have:=(I.fine j hj (hw j)).1;rw[show sAtN S j=s by rw[←e];simp[sAtN,gE,hj]] at this;exact this
 ·refine list_ext_getD [] (by rw[I.may];simp[wordsF]) fun j hj=> ?_;have hj':j<S.length:=by rw[←I.may];exact hj
  rw[(I.fine j hj' (hw j)).2];unfold wordsF;simp[gE,hj',sAtN]
structure Board (W:List (List Int)) (S:List Slt) (n:Nat) (A D:List (Int×Int)):Prop where
 letters:∀w∈W,∀c∈w,0≤c∧c<64
 cells:∀j,j<S.length→∀c∈(sAtN S j).2.2,0≤c∧c<n
 once:∀j,j<S.length→OnceS (sAtN S j)
 seat:∀j,j<S.length→∀c∈(sAtN S j).2.2,(A.getD c.toNat (-1,0)).1=j∨(D.getD c.toNat (-1,0)).1=j
 inA:∀c:Nat,(A.getD c (-1,0)).1<S.length
 inD:∀c:Nat,(D.getD c (-1,0)).1<S.length
theorem Inv.step {W:List (List Int)} {S:List Slt} {m0 m:List Nat} {ms:List (List Int)} {wt:List Bool} {s:Int} {td:List Int} {A D:List (Int×Int)} (B:Board W S m0.length A D) (I:Inv W S m0 m ms wt (s::td))
  {C l:List Int} (hC:(slotAt S s).2.2=C) (hl:ms.getD s.toNat []=l):
  Inv W S m0 (lookC W m C l) (ms.set s.toNat (keepI W m C l)) (putsF A D (lostC W m C l) (wt.set s.toNat false,td)).1 (putsF A D (lostC W m C l) (wt.set s.toNat false,td)).2∧
  (lookC W m C l).sum*(S.length+1)+(putsF A D (lostC W m C l) (wt.set s.toNat false,td)).2.length<m.sum*(S.length+1)+(td.length+1):=by
 have hs:=I.q.mem s List.mem_cons_self;have hj:s.toNat<S.length:=by omega
 obtain⟨f,hf,hf1,hf2⟩:=I.ok s.toNat hj;have hsl:sAtN S s.toNat=slotAt S s:=rfl;have hlf:l=idxF f 0 W:=by rw[←hl,hf]
 rw[hsl,hC] at hf1 hf2;have hlook:lookC W m C l=lookF W m (slotAt S s):=by
  rw[hlf,←hC];rw[←hC] at hf1 hf2;exact look_same B.letters hf1 hf2
 have hkeep:keepI W m C l=idxF (fitL m C) 0 W:=by rw[hlf];exact keep_idx hf1
 have hon:OnceS (slotAt S s):=B.once s.toNat hj;have q1:=pop_queue I.q;obtain⟨q2,g2,p2⟩:=puts_queue B.inA B.inD (lostC W m C l) _ _ q1;have hleq:Leq (lookC W m C l) m:=by rw[hlook];exact look_leq W m _
 have hfit:∀w∈W,fitL (lookC W m C l) C w=fitL m C w:=fun w hw=>by
  rw[hlook];have:=look_fit (m:=m) hon hw;rw[hC] at this;exact this
 have hcells:∀c∈C,c.toNat<m.length:=fun c hc=>by
  have:=B.cells s.toNat hj c (by rw[hsl,hC];exact hc);rw[I.len];omega
 have hsame:∀j,j<S.length→(putsF A D (lostC W m C l) (wt.set s.toNat false,td)).1.getD j false=false→∀c∈(sAtN S j).2.2,m.getD c.toNat 0=(lookC W m C l).getD c.toNat 0:=by
  intro j hj2 hw c hc;by_cases e:(lookC W m C l).getD c.toNat 0=m.getD c.toNat 0
  ·exact e.symm
  ·exfalso;obtain⟨x,hx,hxc⟩:=lost_mem (thereI W m C l) C 0 m c.toNat e;have:=p2 x hx j (by rw[hxc];exact B.seat j hj2 c hc);rw[hw] at this;cases this
 refine⟨⟨?_,?_,hleq.trans I.hi,by simp[I.may],?_,?_,q2⟩,?_⟩
 ·rw[hlook,look_len,I.len]
 ·rw[hlook];refine look_below ?_ I.lo;have:=gfp_stable W S m0 (slotAt S s) (by
   unfold slotAt;exact getD_in hj)
  exact this
 ·intro j hj2;by_cases e:s.toNat=j
  ·subst e;refine⟨fitL m C,?_,fun w hw=> ?_,fun w hw=> ?_⟩
   ·rw[getD_set_gen,if_pos ⟨rfl,by rw[I.may];exact hj⟩,hkeep]
   ·rw[hsl,hC] at hw;exact fit_mono hleq hw
   ·rw[hsl,hC];exact((fit_iff m C w).1 hw).1
  ·obtain⟨f',h1,h2,h3⟩:=I.ok j hj2;refine⟨f',?_,fun w hw=>h2 w (fit_mono hleq hw),h3⟩;rw[getD_set_gen,if_neg (fun q=>e q.1)];exact h1
 ·intro j hj2 hw;have hkept:=hsame j hj2 hw;by_cases e:s.toNat=j
  ·subst e;rw[getD_set_gen,if_pos ⟨rfl,by rw[I.may];exact hj⟩,hkeep];constructor
   ·rw[hlook];exact look_stable hon
   ·rw[hsl,hC];exact(idx_same fun w hw=>hfit w hw).symm
  ·have hw0:wt.getD j false=false:=by
    cases e2:wt.getD j false with
    |false=>rfl
    |true=>
     have:=g2 j (by rw[getD_set_bool,if_neg (fun q=>e q.1)];exact e2);rw[hw] at this;cases this
   obtain⟨h1,h2⟩:=I.fine j hj2 hw0;rw[getD_set_gen,if_neg (fun q=>e q.1)];refine⟨stable_keep hkept h1,?_⟩;rw[h2];exact idx_same fun w _=>fit_keep hkept w
 ·have hql:=q2.long;by_cases e:lostC W m C l=[]
  ·have e2:lookC W m C l=m:=lost_nil _ _ _ _ e;rw[e,e2];show m.sum*(S.length+1)+td.length<_;omega
  ·have e2:(lookC W m C l).sum<m.sum:=lost_sum _ _ _ _ hcells e;have e3:((lookC W m C l).sum+1)*(S.length+1)≤m.sum*(S.length+1):=Nat.mul_le_mul_right _ e2;rw[Nat.add_mul] at e3;omega
def vq25 (W:List (List Int)) (S:List Slt) (m:List Nat) (ms:List (List Int)) (C:List Int) (th:List Nat) (ns:List (List Int)) (k:Int) (mm:List Nat) (lo:List Int) (G:GT) (R:RT):Prop:=let yy1:=(↑(BitVec.ofInt 64 ((Mi mm).getD (0+Int.toNat (C.getD k.toNat tI.dflt)) tU.dflt)&&&BitVec.ofInt 64 ((Mi th).getD (0+k.toNat) tU.dflt)).toNat:Int);let yy2:=(Row.box 176 [sL tI.sl W,sL tS S,D.own 1 0 m.length (some m.length),o0 2 ms.length]);let yy3:=(C.getD k.toNat tI.dflt);let yy5:=(Row.nest (NK.mk 27 tI.sl 0 3 tI) ns none);let yy6:=(↑C.length:Int);(decide (k<yy6)=true→0≤k∧k<yy6∧(0:Int)≤C.getD k.toNat tI.dflt∧C.getD k.toNat tI.dflt< (↑m.length:Int)∧0+Int.toNat yy3< (Mi mm).length∧0≤k∧k<yy6∧0+k.toNat< (Mi th).length∧(0:Int)≤C.getD k.toNat tI.dflt∧C.getD k.toNat tI.dflt< (↑m.length:Int)∧0+Int.toNat yy3< (Mi mm).length∧((IntKind.u64.wrap yy1 !=(Mi mm).getD (0+Int.toNat yy3) tU.dflt)=true→(0:Int)≤C.getD k.toNat tI.dflt∧C.getD k.toNat tI.dflt< (↑m.length:Int)∧0+Int.toNat yy3< (Mi mm).length∧rM 3 (lo.length+1)∧sK n99 0∧G 0 (stOf 78 [2,6,7,37,38,39] [D.ptr 3 0 0,D.ptr 4 0 0,o0 5 (lo.length+1),sL tI C,vi yy6,vi (IntKind.i64.wrap (k+1))] [Slot.live yy2,lD 22 tU ((Mi mm).set (0+Int.toNat yy3) (IntKind.u64.wrap yy1)),Slot.live yy5,lB 173 [p0],lB 33 [D.own 6 0 C.length (some C.length)],lD 3 tI (List.take lo.length (List.drop 0 lo)++List.take 1 (List.drop 0 [C.getD k.toNat tI.dflt])),lD 22 tU (Mi th)]))∧((IntKind.u64.wrap yy1 !=(Mi mm).getD (0+Int.toNat yy3) tU.dflt)=false→sK n99 0∧G 0 (stOf 78 [2,6,7,37,38,39] [D.ptr 3 0 0,D.ptr 4 0 0,o0 5 lo.length,sL tI C,vi yy6,vi (IntKind.i64.wrap (k+1))] [Slot.live yy2,lD 22 tU (Mi mm),Slot.live yy5,lB 173 [p0],lB 33 [D.own 6 0 C.length (some C.length)],lD 3 tI lo,lD 22 tU (Mi th)])))∧(decide (k<yy6)=false→R (o0 3 lo.length,[some yy2,some (Row.data 22 tU (Mi mm)),some yy5],[Row.data 3 tI lo]))
theorem e99 (W:List (List Int)) (S:List Slt) (m:List Nat) (ms:List (List Int)) (s:Int) (C:List Int) (th:List Nat) (ns:List (List Int)) (hth:th.length=C.length) (hts:Smalls th) (hC:∀c∈C,0≤c∧c<m.length) (hn:C.length≤300) (mE:List Nat) (loE:List Int) (z:Nat):∀(k:Int) (mm:List Nat) (lo:List Int),0≤k→k+z=C.length→mm.length=m.length→Smalls mm→lo.length≤k→meetL (fun k=>th.getD k 0) k.toNat (C.drop k.toNat) mm=mE→lo++lostL th k.toNat (C.drop k.toNat) mm=loE→GetsK Tryd.prog Tryd.f145.results.toList [none] (KK n99) 3 (o0 3 loE.length,[some (.box 176 [slW W,slS S,.own 1 0 m.length (some m.length),o0 2 ms.length]),some (.data 22 (.int .u64) (Mi mE)),some (.nest kW ns none)],[.data 3 (.int .i64) loE]) 0 (stOf 78 [2,6,7,37,38,39] [.ptr 3 0 0,.ptr 4 0 0,o0 5 lo.length,slI C,vi C.length,vi k] [lB 176 [slW W,slS S,.own 1 0 m.length (some m.length),o0 2 ms.length],lD 22 (.int .u64) (Mi mm),.live (.nest kW ns none),lB 173 [.ptr 0 0 0],lB 33 [.own 6 0 C.length (some C.length)],lD 3 (.int .i64) lo,lD 22 (.int .u64) (Mi th)]):=by
 induction z with
 |zero=>
  intro k mm lo k0 hk hml hms hlo he hl;rw[List.drop_eq_nil_of_le (by omega)] at he hl;have he:mm=mE:=he;have hl:lo=loE:=by simpa [lostL] using hl
  subst he;subst hl;refine gets_vc (flag [2000033] spNa) (fun k=> [2,6,7,37,38,39]) (fun k=>if k=0 then [⟨7,3,.int .i64⟩] else [⟨4,3,.int .i64⟩]) 400 (.fork (.fork (.hd 0) (.hd 0)) .stop) (V:=vq25 W S m ms C th ns k mm lo) hmG (fun G R=>by kernel_rfl) ?_;unfold vq25;try dsimp only
  simp (disch:=omega) only[oo,oop,oq,reduceCtorEq];repeat' first|with_reducible apply And.intro|intro _|rfl|omega|assumption|trivial|exact room3 (by omega)|exact room46 (by omega)|(exfalso;simp_all;done)
 |succ z ih=>
  intro k mm lo k0 hk hml hms hlo he hl;have hd:=drop_at (xs:=C) (i:=k) (0:Int) k0 (by omega);rw[hd] at he hl;simp only[meetL,lostL] at he hl;have hc:=hC _ (getD_in (d:=0) (k:=k.toNat) (l:=C) (by omega));obtain⟨c,hcc⟩:∃c,C.getD k.toNat 0=c:=⟨_,rfl⟩;rw[hcc] at he hl hc;have hk1:IntKind.i64.wrap (k+1)=k+1:=wrG (by omega) (by omega);have hw:=wrap_and (hms.at c.toNat) (hts.at k.toNat);have e1:(k+1).toNat=k.toNat+1:=by omega
  refine gets_vc (flag [2000033] spNa) (fun k=> [2,6,7,37,38,39]) (fun k=>if k=0 then [⟨7,3,.int .i64⟩] else [⟨4,3,.int .i64⟩]) 400 (.fork (.fork (.hd 0) (.hd 0)) .stop) (V:=vq25 W S m ms C th ns k mm lo) hmG (fun G R=>by kernel_rfl) ?_;unfold vq25;try dsimp only
  simp only[Ty.dflt,hk1,hcc,take_len,List.drop_zero,List.take_length,Mi_getD,Mi_len,Nt_Mi,Int.toNat_natCast,Mi_set,Nat.zero_add,Nat.sub_zero,orI_len,take_one,takeSn,Mi_take,takeL,cast_beq,List.length_append,List.length_cons,List.length_nil,List.length_set,hw];by_cases h:mm.getD c.toNat 0&&&th.getD k.toNat 0=mm.getD c.toNat 0
  ·rw[if_pos h] at hl;have hset:mm.set c.toNat (mm.getD c.toNat 0&&&th.getD k.toNat 0)=mm:=by rw[h];exact set_same 0 _ _
   rw[hset] at he;have hx:=ih (k+1) mm lo (by omega) (by omega) hml hms (by omega) (by rw[e1] at he⊢;exact he) (by rw[e1] at hl⊢;exact hl);rw[h];simp (disch:=omega) only[oo,oop,oq,reduceCtorEq];repeat' first|with_reducible apply And.intro|intro _|rfl|omega|assumption|trivial|exact room3 (by omega)|exact room46 (by omega)|(exfalso;simp_all;done)
  ·rw[if_neg h] at hl;have hx:=ih (k+1) (mm.set c.toNat (mm.getD c.toNat 0&&&th.getD k.toNat 0)) (lo++[c]) (by omega) (by omega) (by rw[List.length_set];exact hml) (by
    intro y hy;rcases List.mem_or_eq_of_mem_set hy with hy|hy
    ·exact hms y hy
    ·rw[hy];exact and_lt (hms.at _)) (by rw[List.length_append,List.length_cons,List.length_nil];omega) (by rw[e1] at he⊢;exact he) (by rw[e1] at hl;rw[List.append_assoc,e1];exact hl)
   rw[List.length_append,List.length_cons,List.length_nil] at hx;have hne:((((mm.getD c.toNat 0&&&th.getD k.toNat 0:Nat):Int) !=((mm.getD c.toNat 0:Nat):Int)))=true:=by
    rw[bne_iff_ne];omega
   rw[hne];simp (disch:=omega) only[oo,oop,oq,reduceCtorEq];repeat' first|with_reducible apply And.intro|intro _|rfl|omega|assumption|trivial|exact room3 (by omega)|exact room46 (by omega)|(exfalso;simp_all;done)
theorem d99 (W:List (List Int)) (S:List Slt) (m:List Nat) (ms:List (List Int)) (s:Int) (s0:0≤s) (s1:s<S.length) (s2:ms.length=S.length) (F:LookOk W m (slotAt S s).2.2 (List.getD ms s.toNat [])):Con Tryd.prog 145 [.box 176 [slW W,slS S,.own 1 0 m.length (some m.length),o0 2 ms.length],.data 22 (.int .u64) (Mi m),.nest kW ms none] [.ptr 0 0 0,vi s] (o0 3 (lostC W m (slotAt S s).2.2 (List.getD ms s.toNat [])).length) [some (.box 176 [slW W,slS S,.own 1 0 m.length (some m.length),o0 2 ms.length]),some (.data 22 (.int .u64) (Mi (lookC W m (slotAt S s).2.2 (List.getD ms s.toNat [])))),some (.nest kW (List.set ms s.toNat (keepI W m (slotAt S s).2.2 (List.getD ms s.toNat []))) none)] [.data 3 (.int .i64) (lostC W m (slotAt S s).2.2 (List.getD ms s.toNat []))]:=by
 refine con_vc (how:=[none]) (c:=n99) (K:=(KK n99)) (flag [2000033] spNa) (fun k=> [2,6,7,37,38,39]) (fun k=>if k=0 then [⟨7,3,.int .i64⟩] else [⟨4,3,.int .i64⟩]) 400 (.hd 0) (V:=fun G R=>let yy0:=(S.getD s.toNat tS.dflt);let yy1:=(ms.getD (0+s.toNat) (NK.mk 27 tI.sl 0 3 tI).t.dflt);let yy2:=(↑(List.length yy0.snd.snd):Int);let yy3:=(keepI W (Nt (Mi m)) yy0.snd.snd yy1++List.replicate (List.length yy1-(keepI W (Nt (Mi m)) yy0.snd.snd yy1).length) (0:Int));let yy5:=(List.replicate yy2.toNat (0:Int));let yy7:=(Mi (orI W (Nt (Mi m)) yy0.snd.snd (Nt yy5) yy1));0≤s∧s<S.length∧(0:Int)≤yy2∧yy2≤yy2∧yy2≤(9223372036854775807:Int)∧yy2.toNat*8≤281474976710656∧0≤s∧s<ms.length∧0+s.toNat<ms.length∧cP 154 [Row.data 3 tI yy1,Row.box 33 [D.own 2 0 yy2.toNat (some yy2.toNat)],Row.data 22 tU (Mi (Nt yy5))] [o0 0 (List.length yy1),D.fn 155 [D.rptr [D.rptr [sL tI.sl W,sL tS S,sL tU (Mi (Nt (Mi m))),D.top]],D.rptr [sL tI yy0.snd.snd],D.ptr 1 0 0]] (o0 0 (keepI W (Nt (Mi m)) yy0.snd.snd yy1).length) [some (Row.data 3 tI yy3),some (Row.box 33 [D.own 2 0 yy2.toNat (some yy2.toNat)]),some (Row.data 22 tU yy7)] []∧7=7∧0=0∧List.length yy1=List.length yy1∧W=W∧S=S∧List.take m.length (List.drop 0 (Mi m))=Mi (Nt (Mi m))∧yy0.snd.snd=yy0.snd.snd∧6=6∧0=0∧0=0∧yy3.length=List.length yy1∧yy7.length=(Mi (Nt yy5)).length∧some (Row.data 3 tI yy1)=some (Row.data 3 tI yy1)∧some (Row.box 33 [D.own 5 0 yy2.toNat (some yy2.toNat)])=some (Row.box 33 [D.own 5 0 yy2.toNat (some yy2.toNat)])∧some (Row.data 22 tU yy5)=some (Row.data 22 tU (Mi (Nt yy5)))∧0≤s∧s<ms.length∧0+s.toNat<ms.length∧0+s.toNat=0+s.toNat∧sK n99 0∧G 0 (stOf 78 [2,6,7,37,38,39] [D.ptr 3 0 0,D.ptr 4 0 0,o0 5 0,sL tI yy0.snd.snd,vi yy2,vi 0] [lB 176 [sL tI.sl W,sL tS S,D.own 1 0 m.length (some m.length),o0 2 ms.length],lD 22 tU (Mi m),Slot.live (Row.nest (NK.mk 27 tI.sl 0 3 tI) (ms.set (0+s.toNat) (List.take (keepI W (Nt (Mi m)) yy0.snd.snd yy1).length yy3)) none),lB 173 [p0],lB 33 [D.own 6 0 yy2.toNat (some yy2.toNat)],lD 3 tI [],lD 22 tU yy7])) hmG Tryd.func145 (by kernel_rfl) (by kernel_rfl) (fun G R=>by kernel_rfl) ?_
 try dsimp only
 try dsimp only
 obtain⟨C,hC⟩:∃C,(S.getD s.toNat (0,false,[])).2.2=C:=⟨_,rfl⟩;obtain⟨L,hL⟩:∃L,List.getD ms s.toNat []=L:=⟨_,rfl⟩;unfold slotAt at F⊢;rw[hC,hL] at F;simp only[Ty.dflt,hC,hL,take_len,List.drop_zero,List.take_length,Mi_getD,Mi_len,Nt_Mi,Int.toNat_natCast,Mi_set,Nat.zero_add,Nat.sub_zero,orI_len,take_one,takeSn,Mi_take,takeL,cast_beq,List.length_append,List.length_cons,List.length_nil,List.length_set];have hsz:=F.size;have hr:List.replicate C.length (0:Int)=Mi (List.replicate C.length 0):=Mi_rep _;have hkl:=keepI_le W m C L;have c1:=d123 W S m C C.length L (List.replicate C.length 0) rfl F (by simp) (rep_small _);have hx:=e99 W S m ms s C (thereI W m C L) (ms.set s.toNat (keepI W m C L)) (by unfold thereI;rw[orI_len];simp) (orI_small W m C L _ (fun i hi=>(F.mem i hi).2.2.2) (rep_small _)) F.cells (by omega) (lookC W m C L) (lostC W m C L) C.length 0 m [] (by omega) (by omega) rfl F.small (by simp) rfl rfl;simp only[hr,List.length_replicate];simp only[Nt_Mi];unfold thereI at hx;have hlen:(keepI W m C L).length+(L.length-(keepI W m C L).length)=L.length:=by omega
 simp only[hlen];simp (disch:=omega) only[oo,oop,oq,reduceCtorEq];repeat' first|with_reducible apply And.intro|intro _|rfl|omega|assumption|trivial|exact room3 (by omega)|exact room46 (by omega)|(exfalso;simp_all;done)
def vq26 (g:Gr) (W:List (List Int)) (M:List Nat) (S:List Slt) (ms:List (List Int)) (n:Nat) (s:Int) (C:List Int) (k:Int) (m:List Nat) (G:GT) (R:RT):Prop:=let yy1:=(Row.box 73 (gG g [sL tI.sl W,sL tU (Mi M)]));let yy2:=(Row.box 176 [sL tI.sl W,sL tS S,D.own 2 0 n (some n),o0 3 ms.length]);(decide (k<C.length)=true→0≤k∧k<C.length∧(0:Int)≤C.getD k.toNat tI.dflt∧C.getD k.toNat tI.dflt< (↑(Mi M).length:Int)∧(0:Int)≤C.getD k.toNat tI.dflt∧C.getD k.toNat tI.dflt< (↑n:Int)∧0+Int.toNat (C.getD k.toNat tI.dflt)< (Mi m).length∧sK n97 2∧G 2 (stOf 81 [1,3,25,26,27,61,62,63] [p0,D.ptr 1 0 0,sL tS S,vi S.length,vi s,sL tI C,vi C.length,vi (IntKind.i64.wrap (k+1))] [Slot.live yy1,Slot.live yy2,lD 22 tU ((Mi m).set (0+Int.toNat (C.getD k.toNat tI.dflt)) ((Mi M).getD (Int.toNat (C.getD k.toNat tI.dflt)) tU.dflt)),Slot.live (Row.nest (NK.mk 27 tI.sl 0 3 tI) ms none)]))∧(decide (k<C.length)=false→sK n97 0∧G 0 (stOf 81 [1,3,25,26,27] [p0,D.ptr 1 0 0,sL tS S,vi S.length,vi (IntKind.i64.wrap (s+1))] [Slot.live yy1,Slot.live yy2,lD 22 tU (Mi m),Slot.live (Row.nest (NK.mk 27 tI.sl 0 3 tI) ms none)]))
theorem e97c (g:Gr) (W:List (List Int)) (M:List Nat) (S:List Slt) (ms:List (List Int)) (n:Nat) (s:Int) (F:Fine W S M) (hn:M.length=n) (s0:0≤s) (s1:s<S.length) (C:List Int) (hC:(S.getD s.toNat (0,false,[])).2.2=C) (r1:List Nat) (r2:List (List Int)) (mE:List Nat) (hx:GetsK Tryd.prog Tryd.f143.results.toList [none] (KK n97) 0 (.ptr 0 0 0,[],[.box 176 [slW W,slS S,.own 1 0 n (some n),o0 2 r2.length],.data 22 (.int .u64) (Mi r1),.nest kW r2 none]) 0 (stOf 81 [1,3,25,26,27] [.ptr 0 0 0,.ptr 1 0 0,slS S,vi S.length,vi (s+1)] [lB 73 (gG g [slW W,slU M]),lB 176 [slW W,slS S,.own 2 0 n (some n),o0 3 ms.length],lD 22 (.int .u64) (Mi mE),.live (.nest kW ms none)])) (z:Nat):∀(k:Int) (m:List Nat),0≤k→k+z=C.length→m.length=n→seatCells M (C.drop k.toNat) m=mE→GetsK Tryd.prog Tryd.f143.results.toList [none] (KK n97) 0 (.ptr 0 0 0,[],[.box 176 [slW W,slS S,.own 1 0 n (some n),o0 2 r2.length],.data 22 (.int .u64) (Mi r1),.nest kW r2 none]) 2 (stOf 81 [1,3,25,26,27,61,62,63] [.ptr 0 0 0,.ptr 1 0 0,slS S,vi S.length,vi s,slI C,vi C.length,vi k] [lB 73 (gG g [slW W,slU M]),lB 176 [slW W,slS S,.own 2 0 n (some n),o0 3 ms.length],lD 22 (.int .u64) (Mi m),.live (.nest kW ms none)]):=by
 have hs1:IntKind.i64.wrap (s+1)=s+1:=by have:=F.slots;exact wrG (by omega) (by omega)
 have hc1:=F.cells _ (getD_in (d:=(0,false,[])) (k:=s.toNat) (by omega));rw[hC] at hc1;have hsl:=F.slots;induction z with
 |zero=>
  intro k m k0 hk hm he;rw[List.drop_eq_nil_of_le (by omega)] at he;have he:m=mE:=he;subst he;refine gets_vc (flag [2000056] spNa) (fun k=> [[1,3,25,26,27],[1,3,5,6,25,26,27,32,33,34],[1,3,25,26,27,61,62,63]].getD k []) (fun k=>if k=1 then [⟨4030003,27,WT⟩,⟨6,3,.int .i64⟩] else if k<3 then [⟨4030003,27,WT⟩] else []) 400 (.fork (.hd 2) (.hd 0)) (V:=vq26 g W M S ms n s C k m) hmG (fun G R=>by kernel_rfl) ?_;unfold vq26;try dsimp only
  simp only[hs1];simp (disch:=omega) only[oo,oop,oq,reduceCtorEq];repeat' first|with_reducible apply And.intro|intro _|rfl|omega|assumption|trivial|exact room3 (by omega)|exact room46 (by omega)|(exfalso;simp_all;done)
 |succ z ih=>
  intro k m k0 hk hm he;have hd:=drop_at (xs:=C) (i:=k) (0:Int) k0 (by omega);rw[hd] at he;simp only[seatCells] at he;have hk1:IntKind.i64.wrap (k+1)=k+1:=by have:=hc1.1;exact wrG (by omega) (by omega)
  have hc2:=hc1.2 _ (getD_in (d:=0) (k:=k.toNat) (l:=C) (by omega));obtain⟨c,hcc⟩:∃c,C.getD k.toNat 0=c:=⟨_,rfl⟩;rw[hcc] at he hc2;have hx2:=ih (k+1) (m.set c.toNat (M.getD c.toNat 0)) (by omega) (by omega) (by rw[List.length_set];exact hm) he;refine gets_vc (flag [2000056] spNa) (fun k=> [[1,3,25,26,27],[1,3,5,6,25,26,27,32,33,34],[1,3,25,26,27,61,62,63]].getD k []) (fun k=>if k=1 then [⟨4030003,27,WT⟩,⟨6,3,.int .i64⟩] else if k<3 then [⟨4030003,27,WT⟩] else []) 400 (.fork (.hd 2) (.hd 0)) (V:=vq26 g W M S ms n s C k m) hmG (fun G R=>by kernel_rfl) ?_;unfold vq26;try dsimp only
  simp only[Ty.dflt,hk1,hcc,take_len,List.drop_zero,List.take_length,Mi_getD,Mi_len,Nt_Mi,Int.toNat_natCast,Mi_set,Nat.zero_add,Nat.sub_zero,orI_len,take_one,takeSn,Mi_take,takeL,cast_beq,List.length_append,List.length_cons,List.length_nil,List.length_set];simp (disch:=omega) only[oo,oop,oq,reduceCtorEq];repeat' first|with_reducible apply And.intro|intro _|rfl|omega|assumption|trivial|exact room3 (by omega)|exact room46 (by omega)|(exfalso;simp_all;done)
theorem e97w (g:Gr) (W:List (List Int)) (M:List Nat) (S:List Slt) (m:List Nat) (ms:List (List Int)) (n:Nat) (s:Int) (F:Fine W S M) (s0:0≤s) (s1:s<S.length) (x:Int) (d:Bool) (C:List Int) (f:List Int→Bool) (hf:f=fun w=>w.length==C.length) (hms:ms.length≤1000) (r1:List Nat) (r2:List (List Int)) (hx:GetsK Tryd.prog Tryd.f143.results.toList [none] (KK n97) 0 (.ptr 0 0 0,[],[.box 176 [slW W,slS S,.own 1 0 n (some n),o0 2 r2.length],.data 22 (.int .u64) (Mi r1),.nest kW r2 none]) 2 (stOf 81 [1,3,25,26,27,61,62,63] [.ptr 0 0 0,.ptr 1 0 0,slS S,vi S.length,vi s,slI C,vi C.length,vi 0] [lB 73 (gG g [slW W,slU M]),lB 176 [slW W,slS S,.own 2 0 n (some n),o0 3 (ms++[idxF f 0 W]).length],lD 22 (.int .u64) (Mi m),.live (.nest kW (ms++[idxF f 0 W]) none)])) (z:Nat):∀(i:Int),0≤i→i+z=W.length→GetsK Tryd.prog Tryd.f143.results.toList [none] (KK n97) 0 (.ptr 0 0 0,[],[.box 176 [slW W,slS S,.own 1 0 n (some n),o0 2 r2.length],.data 22 (.int .u64) (Mi r1),.nest kW r2 none]) 1 (stOf 81 [1,3,5,6,25,26,27,32,33,34] [.ptr 0 0 0,.ptr 1 0 0,.ptr 2 0 0,o0 3 (idxF f 0 (W.take i.toNat)).length,slS S,vi S.length,vi s,slW W,vi W.length,vi i] [lB 73 (gG g [slW W,slU M]),lB 176 [slW W,slS S,.own 4 0 n (some n),o0 5 ms.length],lB 50 [vi x,vb d,slI C],lD 3 (.int .i64) (idxF f 0 (W.take i.toNat)),lD 22 (.int .u64) (Mi m),.live (.nest kW ms none)]):=by
 have hfw:=F.words;induction z with
 |zero=>
  intro i i0 hi;rw[List.take_of_length_le (by omega)];rw[List.length_append,List.length_cons,List.length_nil] at hx;refine gets_vc (flag [2000056] spNa) (fun k=> [[1,3,25,26,27],[1,3,5,6,25,26,27,32,33,34],[1,3,25,26,27,61,62,63]].getD k []) (fun k=>if k=1 then [⟨4030003,27,WT⟩,⟨6,3,.int .i64⟩] else if k<3 then [⟨4030003,27,WT⟩] else []) 400 (.fork (.fork (.hd 1) (.hd 1)) (.hd 2)) (V:=fun G R=>let yy1:=(Row.box 73 (gG g [sL tI.sl W,sL tU (Mi M)]));let yy3:=(idxF f (0:Int) W);let yy4:=(Row.box 176 [sL tI.sl W,sL tS S,D.own 4 0 n (some n),o0 5 ms.length]);let yy5:=(Row.box 50 [vi x,vb d,sL tI C]);let yy6:=(Value.int .i64 (↑S.length:Int));let yy7:=(Row.data 22 tU (Mi m));let yy8:=((↑(List.length (W.getD i.toNat tI.sl.dflt)):Int)==(↑C.length:Int));(decide (i<W.length)=true→0≤i∧i<W.length∧(yy8=true→rM 3 (yy3.length+1)∧sK n97 1∧G 1 (stOf 81 [1,3,5,6,25,26,27,32,33,34] [p0,D.ptr 1 0 0,D.ptr 2 0 0,o0 3 (yy3.length+1),sL tS S,D.v yy6,vi s,sL tI.sl W,vi W.length,vi (IntKind.i64.wrap (i+1))] [Slot.live yy1,Slot.live yy4,Slot.live yy5,lD 3 tI (List.take yy3.length (List.drop 0 yy3)++List.take 1 (List.drop 0 [i])),Slot.live yy7,Slot.live (Row.nest (NK.mk 27 tI.sl 0 3 tI) ms none)]))∧(yy8=false→sK n97 1∧G 1 (stOf 81 [1,3,5,6,25,26,27,32,33,34] [p0,D.ptr 1 0 0,D.ptr 2 0 0,o0 3 yy3.length,sL tS S,D.v yy6,vi s,sL tI.sl W,vi W.length,vi (IntKind.i64.wrap (i+1))] [Slot.live yy1,Slot.live yy4,Slot.live yy5,lD 3 tI yy3,Slot.live yy7,Slot.live (Row.nest (NK.mk 27 tI.sl 0 3 tI) ms none)])))∧(decide (i<W.length)=false→1=1∧rM 27 (ms.length+1)∧sK n97 2∧G 2 (stOf 81 [1,3,25,26,27,61,62,63] [p0,D.ptr 1 0 0,sL tS S,D.v yy6,vi s,sL tI C,vi C.length,vi 0] [Slot.live yy1,lB 176 [sL tI.sl W,sL tS S,D.own 2 0 n (some n),o0 3 (ms.length+1)],Slot.live yy7,Slot.live (Row.nest (NK.mk 27 tI.sl 0 3 tI) (List.take ms.length ms++[List.take yy3.length (List.drop 0 yy3)]) none)]))) hmG (fun G R=>by kernel_rfl) ?_
  try dsimp only
  simp only[take_len,List.drop_zero,List.take_length,Mi_getD,Mi_len,Nt_Mi,Int.toNat_natCast,Mi_set,Nat.zero_add,Nat.sub_zero,orI_len,take_one,takeSn,Mi_take,takeL,cast_beq,List.length_append,List.length_cons,List.length_nil,List.length_set];simp (disch:=omega) only[oo,oop,oq,reduceCtorEq];repeat' first|with_reducible apply And.intro|intro _|rfl|omega|assumption|trivial|exact room3 (by omega)|exact room46 (by omega)|(exfalso;simp_all;done)
 |succ z ih=>
  intro i i0 hi;have hi1:IntKind.i64.wrap (i+1)=i+1:=wrG (by omega) (by omega);have ht:=take_succ_at ([]:List Int) W i0 (by omega);obtain⟨w,hw⟩:∃w,W.getD i.toNat []=w:=⟨_,rfl⟩;rw[hw] at ht;have htl:(W.take i.toNat).length=i.toNat:=by rw[List.length_take];omega
  have hil:(idxF f 0 (W.take i.toNat)).length≤i.toNat:=Nat.le_trans (idx_len f _ 0) (Nat.le_of_eq htl);have hx2:=ih (i+1) (by omega) (by omega);rw[ht,idx_snoc,htl,show(0:Int)+(i.toNat:Int)=i by omega] at hx2;obtain⟨l,hl⟩:∃l,idxF f 0 (W.take i.toNat)=l:=⟨_,rfl⟩;rw[hl] at hx2 hil⊢;have hfw2:(w.length==C.length)=f w:=by rw[hf]
  refine gets_vc (flag [2000056] spNa) (fun k=> [[1,3,25,26,27],[1,3,5,6,25,26,27,32,33,34],[1,3,25,26,27,61,62,63]].getD k []) (fun k=>if k=1 then [⟨4030003,27,WT⟩,⟨6,3,.int .i64⟩] else if k<3 then [⟨4030003,27,WT⟩] else []) 400 (.fork (.fork (.hd 1) (.hd 1)) (.hd 2)) (V:=fun G R=>let yy1:=(Row.box 73 (gG g [sL tI.sl W,sL tU (Mi M)]));let yy3:=(Row.box 176 [sL tI.sl W,sL tS S,D.own 4 0 n (some n),o0 5 ms.length]);let yy4:=(Row.box 50 [vi x,vb d,sL tI C]);let yy5:=(Value.int .i64 (↑S.length:Int));let yy6:=(Row.data 22 tU (Mi m));let yy7:=((↑(List.length (W.getD i.toNat tI.sl.dflt)):Int)==(↑C.length:Int));(decide (i<W.length)=true→0≤i∧i<W.length∧(yy7=true→rM 3 (l.length+1)∧sK n97 1∧G 1 (stOf 81 [1,3,5,6,25,26,27,32,33,34] [p0,D.ptr 1 0 0,D.ptr 2 0 0,o0 3 (l.length+1),sL tS S,D.v yy5,vi s,sL tI.sl W,vi W.length,vi (IntKind.i64.wrap (i+1))] [Slot.live yy1,Slot.live yy3,Slot.live yy4,lD 3 tI (List.take l.length (List.drop 0 l)++List.take 1 (List.drop 0 [i])),Slot.live yy6,Slot.live (Row.nest (NK.mk 27 tI.sl 0 3 tI) ms none)]))∧(yy7=false→sK n97 1∧G 1 (stOf 81 [1,3,5,6,25,26,27,32,33,34] [p0,D.ptr 1 0 0,D.ptr 2 0 0,o0 3 l.length,sL tS S,D.v yy5,vi s,sL tI.sl W,vi W.length,vi (IntKind.i64.wrap (i+1))] [Slot.live yy1,Slot.live yy3,Slot.live yy4,lD 3 tI l,Slot.live yy6,Slot.live (Row.nest (NK.mk 27 tI.sl 0 3 tI) ms none)])))∧(decide (i<W.length)=false→1=1∧rM 27 (ms.length+1)∧sK n97 2∧G 2 (stOf 81 [1,3,25,26,27,61,62,63] [p0,D.ptr 1 0 0,sL tS S,D.v yy5,vi s,sL tI C,vi C.length,vi 0] [Slot.live yy1,lB 176 [sL tI.sl W,sL tS S,D.own 2 0 n (some n),o0 3 (ms.length+1)],Slot.live yy6,Slot.live (Row.nest (NK.mk 27 tI.sl 0 3 tI) (List.take ms.length ms++[List.take l.length (List.drop 0 l)]) none)]))) hmG (fun G R=>by kernel_rfl) ?_
  try dsimp only
  simp only[Ty.dflt,hi1,hw,take_len,List.drop_zero,List.take_length,Mi_getD,Mi_len,Nt_Mi,Int.toNat_natCast,Mi_set,Nat.zero_add,Nat.sub_zero,orI_len,take_one,takeSn,Mi_take,takeL,cast_beq,List.length_append,List.length_cons,List.length_nil,List.length_set,hfw2];rcases Bool.eq_false_or_eq_true (f w) with h|h
  ·rw[h,if_pos rfl,List.length_append,List.length_cons,List.length_nil] at hx2;rw[h];simp (disch:=omega) only[oo,oop,oq,reduceCtorEq];repeat' first|with_reducible apply And.intro|intro _|rfl|omega|assumption|trivial|exact room3 (by omega)|exact room46 (by omega)|(exfalso;simp_all;done)
  ·rw[h,if_neg (by simp),List.append_nil] at hx2;rw[h];simp (disch:=omega) only[oo,oop,oq,reduceCtorEq];repeat' first|with_reducible apply And.intro|intro _|rfl|omega|assumption|trivial|exact room3 (by omega)|exact room46 (by omega)|(exfalso;simp_all;done)
def vq27 (g:Gr) (W:List (List Int)) (M:List Nat) (S:List Slt) (n:Nat) (s:Int) (m:List Nat) (ms:List (List Int)) (G:GT) (R:RT):Prop:=(decide (s<S.length)=true→0≤s∧s<S.length∧sK n97 1∧G 1 (stOf 81 [1,3,5,6,25,26,27,32,33,34] [p0,D.ptr 1 0 0,D.ptr 2 0 0,o0 3 0,sL tS S,vi S.length,vi s,sL tI.sl W,vi W.length,vi 0] [lB 73 (gG g [sL tI.sl W,sL tU (Mi M)]),lB 176 [sL tI.sl W,sL tS S,D.own 4 0 n (some n),o0 5 ms.length],lB 50 [vi (S.getD s.toNat tS.dflt).fst,vb (S.getD s.toNat tS.dflt).snd.fst,sL tI (S.getD s.toNat tS.dflt).snd.snd],lD 3 tI [],lD 22 tU (Mi m),Slot.live (Row.nest (NK.mk 27 tI.sl 0 3 tI) ms none)]))∧(decide (s<S.length)=false→R (p0,[],[Row.box 176 [sL tI.sl W,sL tS S,D.own 1 0 n (some n),o0 2 ms.length],Row.data 22 tU (Mi m),Row.nest (NK.mk 27 tI.sl 0 3 tI) ms none]))
theorem e97 (g:Gr) (W:List (List Int)) (M:List Nat) (S:List Slt) (n:Nat) (F:Fine W S M) (hn:M.length=n) (r1:List Nat) (r2:List (List Int)) (h2:mayF W S=r2) (z:Nat):∀(s:Int) (m:List Nat) (ms:List (List Int)),0≤s→s+z=S.length→m.length=n→seatSlots M (S.drop s.toNat) m=r1→ms=mayF W (S.take s.toNat)→GetsK Tryd.prog Tryd.f143.results.toList [none] (KK n97) 0 (.ptr 0 0 0,[],[.box 176 [slW W,slS S,.own 1 0 n (some n),o0 2 r2.length],.data 22 (.int .u64) (Mi r1),.nest kW r2 none]) 0 (stOf 81 [1,3,25,26,27] [.ptr 0 0 0,.ptr 1 0 0,slS S,vi S.length,vi s] [lB 73 (gG g [slW W,slU M]),lB 176 [slW W,slS S,.own 2 0 n (some n),o0 3 ms.length],lD 22 (.int .u64) (Mi m),.live (.nest kW ms none)]):=by
 have hsl:=F.slots;induction z with
 |zero=>
  intro s m ms s0 hs hm h1 hms;rw[List.drop_eq_nil_of_le (by omega)] at h1;rw[List.take_of_length_le (by omega),h2] at hms;have h1:m=r1:=h1;subst h1;subst hms;refine gets_vc (flag [2000056] spNa) (fun k=> [[1,3,25,26,27],[1,3,5,6,25,26,27,32,33,34],[1,3,25,26,27,61,62,63]].getD k []) (fun k=>if k=1 then [⟨4030003,27,WT⟩,⟨6,3,.int .i64⟩] else if k<3 then [⟨4030003,27,WT⟩] else []) 400 (.fork (.hd 1) .stop) (V:=vq27 g W M S n s m ms) hmG (fun G R=>by kernel_rfl) ?_;unfold vq27;try dsimp only
  simp (disch:=omega) only[oo,oop,oq,reduceCtorEq];repeat' first|with_reducible apply And.intro|intro _|rfl|omega|assumption|trivial|exact room3 (by omega)|exact room46 (by omega)|(exfalso;simp_all;done)
 |succ z ih=>
  intro s m ms s0 hs hm h1 hms;have hd:=drop_at (xs:=S) (i:=s) ((0,false,[]):Slt) s0 (by omega);have ht:=take_succ_at ((0,false,[]):Slt) S s0 (by omega);obtain⟨C,hC⟩:∃C,(S.getD s.toNat (0,false,[])).2.2=C:=⟨_,rfl⟩;rw[hd] at h1;simp only[seatSlots,hC] at h1;have hml:ms.length≤1000:=by rw[hms,may_len,List.length_take];omega
  have hx:=ih (s+1) (seatCells M C m) (ms++[idxF (fun w=>w.length==C.length) 0 W]) (by omega) (by omega) (by rw[seatCells_len];exact hm) h1 (by rw[ht,may_snoc,hms,hC]);have hx3:=e97c g W M S (ms++[idxF (fun w=>w.length==C.length) 0 W]) n s F hn s0 (by omega) C hC r1 r2 _ hx C.length 0 m (by omega) (by omega) hm rfl;have hx1:=e97w g W M S m ms n s F s0 (by omega) (S.getD s.toNat (0,false,[])).1 (S.getD s.toNat (0,false,[])).2.1 C (fun w=>w.length==C.length) rfl hml r1 r2 hx3 W.length 0 (by omega) (by omega);simp only[show(0:Int).toNat=0 by rfl,List.take_zero,idxF,List.length_nil] at hx1;refine gets_vc (flag [2000056] spNa) (fun k=> [[1,3,25,26,27],[1,3,5,6,25,26,27,32,33,34],[1,3,25,26,27,61,62,63]].getD k []) (fun k=>if k=1 then [⟨4030003,27,WT⟩,⟨6,3,.int .i64⟩] else if k<3 then [⟨4030003,27,WT⟩] else []) 400 (.fork (.hd 1) .stop) (V:=vq27 g W M S n s m ms) hmG (fun G R=>by kernel_rfl) ?_;unfold vq27;try dsimp only
  simp only[Ty.dflt,hC];simp (disch:=omega) only[oo,oop,oq,reduceCtorEq];repeat' first|with_reducible apply And.intro|intro _|rfl|omega|assumption|trivial|exact room3 (by omega)|exact room46 (by omega)|(exfalso;simp_all;done)
theorem d97 (g:Gr) (W:List (List Int)) (M:List Nat) (F:Fine W (slotsF g) M):Con Tryd.prog 143 [] [.agg (gG g [slW W,slU M])] (.ptr 0 0 0) [] [.box 176 [slW W,slS (slotsF g),.own 1 0 M.length (some M.length),o0 2 (mayF W (slotsF g)).length],.data 22 (.int .u64) (Mi (m0F ⟨g,W,M⟩)),.nest kW (mayF W (slotsF g)) none]:=by
 refine con_vc (how:=[none]) (c:=n97) (K:=(KK n97)) (flag [2000056] spNa) (fun k=> [[1,3,25,26,27],[1,3,5,6,25,26,27,32,33,34],[1,3,25,26,27,61,62,63]].getD k []) (fun k=>if k=1 then [⟨4030003,27,WT⟩,⟨6,3,.int .i64⟩] else if k<3 then [⟨4030003,27,WT⟩] else []) 400 (.hd 0) (V:=fun G R=>let yy1:=(↑(Mi M).length:Int);cP 36 [] [D.agg (gG g [])] (sL tS (slotsF g)) [] []∧gS g g ((0:Int)≤yy1∧yy1≤yy1∧yy1≤(9223372036854775807:Int)∧yy1.toNat*8≤281474976710656∧sK n97 0∧G 0 (stOf 81 [1,3,25,26,27] [p0,D.ptr 1 0 0,sL tS (slotsF g),vi (↑(slotsF g).length:Int),vi 0] [lB 73 (gG g [sL tI.sl W,sL tU (Mi M)]),lB 176 [sL tI.sl W,sL tS (slotsF g),D.own 2 0 yy1.toNat (some yy1.toNat),o0 3 0],lD 22 tU (List.replicate yy1.toNat (0:Int)),Slot.live (Row.nest (NK.mk 27 tI.sl 0 3 tI) [] none)]))) hmG Tryd.func143 (by kernel_rfl) (by kernel_rfl) (fun G R=>by kernel_rfl) ?_
 try dsimp only
 try dsimp only
 have c1:=d65s g;have hsz:=F.size;have hr:List.replicate M.length (0:Int)=Mi (List.replicate M.length 0):=Mi_rep _;have hx:=e97 g W M (slotsF g) M.length F rfl _ _ rfl (slotsF g).length 0 (List.replicate M.length 0) [] (by omega) (by omega) (by simp) rfl rfl;simp only[take_len,List.drop_zero,List.take_length,Mi_getD,Mi_len,Nt_Mi,Int.toNat_natCast,Mi_set,Nat.zero_add,Nat.sub_zero,orI_len,take_one,takeSn,Mi_take,takeL,cast_beq,List.length_append,List.length_cons,List.length_nil,List.length_set,hr];simp (disch:=omega) only[oo,oop,oq,reduceCtorEq];repeat' first|with_reducible apply And.intro|intro _|rfl|omega|assumption|trivial|exact room3 (by omega)|exact room46 (by omega)|(exfalso;simp_all;done)
def vq28 (S:List (Int×Bool×List Int)) (s:Int) (cells:List Int) (k:Int) (A:List (Int×Int)) (E:List (Int×Int)) (G:GT) (R:RT):Prop:=(decide (k<cells.length)=true→0≤k∧k<cells.length∧(0:Int)≤0∧(0:Int)< (↑2:Int)∧(0:Int)≤cells.getD k.toNat tI.dflt∧cells.getD k.toNat tI.dflt< (↑A.length:Int)∧0+Int.toNat (cells.getD k.toNat tI.dflt)<A.length∧sK q77 2∧G 2 (stOf 63 [4,5,7,32,33,34,42,43,44] [p0,vi s,vi 0,o0 1 S.length,vi S.length,vi s,sL tI cells,vi cells.length,vi (IntKind.i64.wrap (k+1))] [lB 111 [o0 2 A.length,o0 3 E.length],lD 50 tS S,lD 61 tQ (A.set (0+Int.toNat (cells.getD k.toNat tI.dflt)) (s,k)),lD 61 tQ E]))∧(decide (k<cells.length)=false→sK q77 1∧G 1 (stOf 63 [4,32,33,34] [p0,o0 1 S.length,vi S.length,vi (IntKind.i64.wrap (s+1))] [lB 111 [o0 2 A.length,o0 3 E.length],lD 50 tS S,lD 61 tQ A,lD 61 tQ E]))
theorem e77_20 (S:List (Int×Bool×List Int)) (s:Int) (cells:List Int) (r:D×List (Option Row)×List Row) (hs:0≤s∧s≤600) (hl:cells.length≤300) (m:Nat):
  ∀(k:Int) (A E:List (Int×Int)),0≤k→k+m=cells.length→(∀c∈cells,0≤c∧c< (A.length:Int))→
  GetsK Tryd.prog Tryd.f40.results.toList [none,none] (KK q77) 0 r 1 (stOf 63 [4,32,33,34] [.ptr 0 0 0,o0 1 S.length,vi S.length,vi (s+1)] [lB 111 [o0 2 (layCells s k (cells.drop k.toNat) A).length,o0 3 E.length],lD 50 SlT S,lD 61 SeT (layCells s k (cells.drop k.toNat) A),lD 61 SeT E])→GetsK Tryd.prog Tryd.f40.results.toList [none,none] (KK q77) 0 r 2 (stOf 63 [4,5,7,32,33,34,42,43,44] [.ptr 0 0 0,vi s,vi 0,o0 1 S.length,vi S.length,vi s,sL (.int .i64) cells,vi cells.length,vi k] [lB 111 [o0 2 A.length,o0 3 E.length],lD 50 SlT S,lD 61 SeT A,lD 61 SeT E]):=by
 induction m with
 |zero=>
  intro k A E k0 km hc cont;rw[List.drop_eq_nil_of_le (by omega)] at cont;simp only[layCells] at cont;refine gets_vc spSe (fun k=> [[1,4,15,16],[4,32,33,34],[4,5,7,32,33,34,42,43,44]].getD k []) (fun k=>if k=99 then [⟨2,61,SeT⟩,⟨3,61,SeT⟩] else []) 400 (.fork (.hd 2) (.hd 1)) (V:=vq28 S s cells k A E) hmG (fun G R=>by kernel_rfl) ?_;unfold vq28;try dsimp only
  simp (disch:=omega) only[oo,oop,oq,reduceCtorEq];repeat' first|with_reducible apply And.intro|intro _|rfl|omega|assumption|trivial|exact room104 (by omega)|(exfalso;simp_all;done)
 |succ m ih=>
  intro k A E k0 km hc cont;have hd:=drop_at (xs:=cells) (i:=k) (0:Int) k0 (by omega);have hm:cells.getD k.toNat 0∈cells:=List.mem_of_mem_drop (i:=k.toNat) (by rw[hd];exact List.mem_cons_self);have hcc:=hc _ hm;rw[hd] at cont;simp only[layCells] at cont;have hx:=ih (k+1) (A.set (cells.getD k.toNat 0).toNat (s,k)) E (by omega) (by omega) (by rw[List.length_set];exact hc) cont;rw[List.length_set] at hx;refine gets_vc spSe (fun k=> [[1,4,15,16],[4,32,33,34],[4,5,7,32,33,34,42,43,44]].getD k []) (fun k=>if k=99 then [⟨2,61,SeT⟩,⟨3,61,SeT⟩] else []) 400 (.fork (.hd 2) (.hd 1)) (V:=vq28 S s cells k A E) hmG (fun G R=>by kernel_rfl) ?_;unfold vq28;try dsimp only
  simp only[Ty.dflt,Nat.zero_add];simp (disch:=omega) only[oo,oop,oq,reduceCtorEq];repeat' first|with_reducible apply And.intro|intro _|rfl|omega|assumption|trivial|exact room104 (by omega)|(exfalso;simp_all;done)
def vq29 (S:List (Int×Bool×List Int)) (s:Int) (cells:List Int) (k:Int) (A:List (Int×Int)) (E:List (Int×Int)) (G:GT) (R:RT):Prop:=(decide (k<cells.length)=true→0≤k∧k<cells.length∧(0:Int)≤1∧(1:Int)< (↑2:Int)∧(0:Int)≤cells.getD k.toNat tI.dflt∧cells.getD k.toNat tI.dflt< (↑E.length:Int)∧0+Int.toNat (cells.getD k.toNat tI.dflt)<E.length∧sK q77 2∧G 2 (stOf 63 [4,5,7,32,33,34,42,43,44] [p0,vi s,vi 1,o0 1 S.length,vi S.length,vi s,sL tI cells,vi cells.length,vi (IntKind.i64.wrap (k+1))] [lB 111 [o0 2 A.length,o0 3 E.length],lD 50 tS S,lD 61 tQ A,lD 61 tQ (E.set (0+Int.toNat (cells.getD k.toNat tI.dflt)) (s,k))]))∧(decide (k<cells.length)=false→sK q77 1∧G 1 (stOf 63 [4,32,33,34] [p0,o0 1 S.length,vi S.length,vi (IntKind.i64.wrap (s+1))] [lB 111 [o0 2 A.length,o0 3 E.length],lD 50 tS S,lD 61 tQ A,lD 61 tQ E]))
theorem e77_21 (S:List (Int×Bool×List Int)) (s:Int) (cells:List Int) (r:D×List (Option Row)×List Row) (hs:0≤s∧s≤600) (hl:cells.length≤300) (m:Nat):
  ∀(k:Int) (A E:List (Int×Int)),0≤k→k+m=cells.length→(∀c∈cells,0≤c∧c< (E.length:Int))→
  GetsK Tryd.prog Tryd.f40.results.toList [none,none] (KK q77) 0 r 1 (stOf 63 [4,32,33,34] [.ptr 0 0 0,o0 1 S.length,vi S.length,vi (s+1)] [lB 111 [o0 2 A.length,o0 3 (layCells s k (cells.drop k.toNat) E).length],lD 50 SlT S,lD 61 SeT A,lD 61 SeT (layCells s k (cells.drop k.toNat) E)])→GetsK Tryd.prog Tryd.f40.results.toList [none,none] (KK q77) 0 r 2 (stOf 63 [4,5,7,32,33,34,42,43,44] [.ptr 0 0 0,vi s,vi 1,o0 1 S.length,vi S.length,vi s,sL (.int .i64) cells,vi cells.length,vi k] [lB 111 [o0 2 A.length,o0 3 E.length],lD 50 SlT S,lD 61 SeT A,lD 61 SeT E]):=by
 induction m with
 |zero=>
  intro k A E k0 km hc cont;rw[List.drop_eq_nil_of_le (by omega)] at cont;simp only[layCells] at cont;refine gets_vc spSe (fun k=> [[1,4,15,16],[4,32,33,34],[4,5,7,32,33,34,42,43,44]].getD k []) (fun k=>if k=99 then [⟨2,61,SeT⟩,⟨3,61,SeT⟩] else []) 400 (.fork (.hd 2) (.hd 1)) (V:=vq29 S s cells k A E) hmG (fun G R=>by kernel_rfl) ?_;unfold vq29;try dsimp only
  simp (disch:=omega) only[oo,oop,oq,reduceCtorEq];repeat' first|with_reducible apply And.intro|intro _|rfl|omega|assumption|trivial|exact room104 (by omega)|(exfalso;simp_all;done)
 |succ m ih=>
  intro k A E k0 km hc cont;have hd:=drop_at (xs:=cells) (i:=k) (0:Int) k0 (by omega);have hm:cells.getD k.toNat 0∈cells:=List.mem_of_mem_drop (i:=k.toNat) (by rw[hd];exact List.mem_cons_self);have hcc:=hc _ hm;rw[hd] at cont;simp only[layCells] at cont;have hx:=ih (k+1) A (E.set (cells.getD k.toNat 0).toNat (s,k)) (by omega) (by omega) (by rw[List.length_set];exact hc) cont;rw[List.length_set] at hx;refine gets_vc spSe (fun k=> [[1,4,15,16],[4,32,33,34],[4,5,7,32,33,34,42,43,44]].getD k []) (fun k=>if k=99 then [⟨2,61,SeT⟩,⟨3,61,SeT⟩] else []) 400 (.fork (.hd 2) (.hd 1)) (V:=vq29 S s cells k A E) hmG (fun G R=>by kernel_rfl) ?_;unfold vq29;try dsimp only
  simp only[Ty.dflt,Nat.zero_add];simp (disch:=omega) only[oo,oop,oq,reduceCtorEq];repeat' first|with_reducible apply And.intro|intro _|rfl|omega|assumption|trivial|exact room104 (by omega)|(exfalso;simp_all;done)
def vq30 (S:List (Int×Bool×List Int)) (s:Int) (A:List (Int×Int)) (E:List (Int×Int)) (G:GT) (R:RT):Prop:=let yy1:=(S.getD (0+s.toNat) tS.dflt);(decide (s<S.length)=true→0≤s∧s<S.length∧0+s.toNat<S.length∧(yy1.snd.fst=true→sK q77 2∧G 2 (stOf 63 [4,5,7,32,33,34,42,43,44] [p0,vi s,vi 1,o0 1 S.length,vi S.length,vi s,sL tI yy1.snd.snd,vi (↑(List.length yy1.snd.snd):Int),vi 0] [lB 111 [o0 2 A.length,o0 3 E.length],lD 50 tS S,lD 61 tQ A,lD 61 tQ E]))∧(yy1.snd.fst=false→sK q77 2∧G 2 (stOf 63 [4,5,7,32,33,34,42,43,44] [p0,vi s,vi 0,o0 1 S.length,vi S.length,vi s,sL tI yy1.snd.snd,vi (↑(List.length yy1.snd.snd):Int),vi 0] [lB 111 [o0 2 A.length,o0 3 E.length],lD 50 tS S,lD 61 tQ A,lD 61 tQ E])))∧(decide (s<S.length)=false→(0:Int)≤0∧(0:Int)< (↑2:Int)∧(0:Int)≤1∧(1:Int)< (↑2:Int)∧R (D.tup [o0 0 A.length,o0 1 E.length],[],[Row.data 61 tQ A,Row.data 61 tQ E]))
theorem e77_1 (S:List (Int×Bool×List Int)) (N:Nat) (r:D×List (Option Row)×List Row) (hS:S.length≤600) (hc:∀x∈S,x.2.2.length≤257∧∀c∈x.2.2,0≤c∧c< (N:Int)) (m:Nat):∀(s:Int) (A E:List (Int×Int)),0≤s→s+m=S.length→A.length=N→E.length=N→
  r=(.tup [o0 0 (laySlots s (S.drop s.toNat) A E).1.length,o0 1 (laySlots s (S.drop s.toNat) A E).2.length],[],[.data 61 SeT (laySlots s (S.drop s.toNat) A E).1,.data 61 SeT (laySlots s (S.drop s.toNat) A E).2])→GetsK Tryd.prog Tryd.f40.results.toList [none,none] (KK q77) 0 r 1 (stOf 63 [4,32,33,34] [.ptr 0 0 0,o0 1 S.length,vi S.length,vi s] [lB 111 [o0 2 A.length,o0 3 E.length],lD 50 SlT S,lD 61 SeT A,lD 61 SeT E]):=by
 induction m with
 |zero=>
  intro s A E s0 sm la le hr;rw[List.drop_eq_nil_of_le (by omega)] at hr;simp only[laySlots] at hr;subst hr;refine gets_vc spSe (fun k=> [[1,4,15,16],[4,32,33,34],[4,5,7,32,33,34,42,43,44]].getD k []) (fun k=>if k=99 then [⟨2,61,SeT⟩,⟨3,61,SeT⟩] else []) 400 (.fork (.fork (.hd 2) (.hd 2)) .stop) (V:=vq30 S s A E) hmG (fun G R=>by kernel_rfl) ?_;unfold vq30;try dsimp only
  simp (disch:=omega) only[oo,oop,oq,reduceCtorEq];repeat' first|with_reducible apply And.intro|intro _|rfl|omega|assumption|trivial|exact room104 (by omega)|(exfalso;simp_all;done)
 |succ m ih=>
  intro s A E s0 sm la le hr;have hd:=drop_at (xs:=S) (i:=s) (Ty.dflt (.prod (.int .i64) (.prod .bool (.sl (.int .i64))))) s0 (by omega);have hm:S.getD s.toNat (Ty.dflt (.prod (.int .i64) (.prod .bool (.sl (.int .i64)))))∈S:=List.mem_of_mem_drop (i:=s.toNat) (by rw[hd];exact List.mem_cons_self);have hx:=hc _ hm;rw[hd] at hr;refine gets_vc spSe (fun k=> [[1,4,15,16],[4,32,33,34],[4,5,7,32,33,34,42,43,44]].getD k []) (fun k=>if k=99 then [⟨2,61,SeT⟩,⟨3,61,SeT⟩] else []) 400 (.fork (.fork (.hd 2) (.hd 2)) .stop) (V:=vq30 S s A E) hmG (fun G R=>by kernel_rfl) ?_;unfold vq30;try dsimp only
  simp only[Nat.zero_add];generalize S.getD s.toNat (Ty.dflt (.prod (.int .i64) (.prod .bool (.sl (.int .i64)))))=z at*
  obtain⟨num,down,cells⟩:=z;simp only at hx;simp only[laySlots] at hr;cases down
  ·simp only[Bool.false_eq_true,if_false] at hr;have hy:=ih (s+1) (layCells s 0 cells A) E (by omega) (by omega) (by rw[lay_len];exact la) le hr;have hz:=e77_20 S s cells r ⟨s0,by omega⟩ (by omega) cells.length 0 A E (by omega) (by omega) (by rw[la];exact hx.2) (by simpa using hy);simp (disch:=omega) only[oo,oop,oq,reduceCtorEq];repeat' first|with_reducible apply And.intro|intro _|rfl|omega|assumption|trivial|exact room104 (by omega)|(exfalso;simp_all;done)
  ·simp only[if_true] at hr;have hy:=ih (s+1) A (layCells s 0 cells E) (by omega) (by omega) la (by rw[lay_len];exact le) hr;have hz:=e77_21 S s cells r ⟨s0,by omega⟩ (by omega) cells.length 0 A E (by omega) (by omega) (by rw[le];exact hx.2) (by simpa using hy);simp (disch:=omega) only[oo,oop,oq,reduceCtorEq];repeat' first|with_reducible apply And.intro|intro _|rfl|omega|assumption|trivial|exact room104 (by omega)|(exfalso;simp_all;done)
theorem e77_n (g:Gr) (n:Nat) (r:D×List (Option Row)×List Row) (hn:0<n∧n≤256) (fin:GetsK Tryd.prog Tryd.f40.results.toList [none,none] (KK q77) 0 r 0 (stOf 63 [1,4,15,16] [.ptr 0 0 0,.ptr 1 0 0,vi n,vi 1] [lB 46 (gG g []),lB 111 [o0 2 (List.replicate (1:Int).toNat ((-1:Int),(0:Int))).length,o0 3 (List.replicate (1:Int).toNat ((-1:Int),(0:Int))).length],lD 61 SeT (List.replicate (1:Int).toNat ((-1:Int),(0:Int))),lD 61 SeT (List.replicate (1:Int).toNat ((-1:Int),(0:Int)))])):GetsK Tryd.prog Tryd.f40.results.toList [none,none] (KK q77) 0 r 0 (stOf 63 [1,4,15,16] [.ptr 0 0 0,.ptr 1 0 0,vi n,vi 0] [lB 46 (gG g []),lB 111 [.v (.slice none 0 0),.v (.slice none 0 0)]]):=by
 refine gets_vc spSe (fun k=> [[1,4,15,16],[4,32,33,34],[4,5,7,32,33,34,42,43,44]].getD k []) (fun k=>if k=99 then [⟨2,61,SeT⟩,⟨3,61,SeT⟩] else []) 400 (.fork (.hd 0) (.hd 1)) (V:=fun G R=>let yy1:=(Row.data 61 tQ (List.take 1 (List.drop 0 [((-1:Int),(0:Int))])));(decide ((0:Int)< (↑n:Int))=true→(0:Int)≤0∧(0:Int)< (↑2:Int)∧rM 61 1∧(0:Int)≤0∧(0:Int)< (↑2:Int)∧(0:Int)≤1∧(1:Int)< (↑2:Int)∧rM 61 1∧(0:Int)≤1∧(1:Int)< (↑2:Int)∧sK q77 0∧G 0 (stOf 63 [1,4,15,16] [p0,D.ptr 1 0 0,vi n,vi (IntKind.i64.wrap ((0:Int)+1))] [lB 46 (gG g []),lB 111 [o0 2 1,o0 3 1],Slot.live yy1,Slot.live yy1]))∧(decide ((0:Int)< (↑n:Int))=false→cP 36 [] [D.agg (gG g [])] (o0 0 (slotsF g).length) [] [Row.data 50 tS (slotsF g)]∧gS g g (sK q77 1∧G 1 (stOf 63 [4,32,33,34] [p0,o0 1 (slotsF g).length,vi (↑(slotsF g).length:Int),vi 0] [lB 111 [nD,nD],lD 50 tS (slotsF g)])))) hmG (fun G R=>by kernel_rfl) ?_
 try dsimp only
 have fin:GetsK Tryd.prog Tryd.f40.results.toList [none,none] (KK q77) 0 r 0 (stOf 63 [1,4,15,16] [.ptr 0 0 0,.ptr 1 0 0,vi n,vi 1] [lB 46 (gG g []),lB 111 [o0 2 [((-1:Int),(0:Int))].length,o0 3 [((-1:Int),(0:Int))].length],lD 61 SeT [((-1:Int),(0:Int))],lD 61 SeT [((-1:Int),(0:Int))]]):=fin;simp (disch:=omega) only[oo,oop,oq,reduceCtorEq];repeat' first|with_reducible apply And.intro|intro _|rfl|omega|assumption|trivial|exact room104 (by omega)|(exfalso;simp_all;done)
theorem e77_0 (g:Gr) (n:Nat) (r:D×List (Option Row)×List Row) (hn:n≤256) (fin:Con Tryd.prog 36 [] [g.d] (o0 0 (slotsF g).length) [] [.data 50 SlT (slotsF g)]∧GetsK Tryd.prog Tryd.f40.results.toList [none,none] (KK q77) 0 r 1 (stOf 63 [4,32,33,34] [.ptr 0 0 0,o0 1 (slotsF g).length,vi (slotsF g).length,vi 0] [lB 111 [o0 2 (List.replicate n ((-1:Int),(0:Int))).length,o0 3 (List.replicate n ((-1:Int),(0:Int))).length],lD 50 SlT (slotsF g),lD 61 SeT (List.replicate n ((-1:Int),(0:Int))),lD 61 SeT (List.replicate n ((-1:Int),(0:Int)))])) (m:Nat):∀(i:Int),0<i→i+m=n→GetsK Tryd.prog Tryd.f40.results.toList [none,none] (KK q77) 0 r 0 (stOf 63 [1,4,15,16] [.ptr 0 0 0,.ptr 1 0 0,vi n,vi i] [lB 46 (gG g []),lB 111 [o0 2 (List.replicate i.toNat ((-1:Int),(0:Int))).length,o0 3 (List.replicate i.toNat ((-1:Int),(0:Int))).length],lD 61 SeT (List.replicate i.toNat ((-1:Int),(0:Int))),lD 61 SeT (List.replicate i.toNat ((-1:Int),(0:Int)))]):=by
 induction m with
 |zero=>
  intro i i0 im;have e:i.toNat=n:=by omega
  generalize hA:List.replicate i.toNat ((-1:Int),(0:Int))=A
  refine gets_vc spSe (fun k=> [[1,4,15,16],[4,32,33,34],[4,5,7,32,33,34,42,43,44]].getD k []) (fun k=>if k=99 then [⟨2,61,SeT⟩,⟨3,61,SeT⟩] else []) 400 (.fork (.hd 0) (.hd 1)) (V:=fun G R=>let yy1:=(Row.data 61 tQ (List.take A.length (List.drop 0 A)++List.take 1 (List.drop 0 [((-1:Int),(0:Int))])));(decide (i<n)=true→(0:Int)≤0∧(0:Int)< (↑2:Int)∧rM 61 (A.length+1)∧(0:Int)≤0∧(0:Int)< (↑2:Int)∧(0:Int)≤1∧(1:Int)< (↑2:Int)∧rM 61 (A.length+1)∧(0:Int)≤1∧(1:Int)< (↑2:Int)∧sK q77 0∧G 0 (stOf 63 [1,4,15,16] [p0,D.ptr 1 0 0,vi n,vi (IntKind.i64.wrap (i+1))] [lB 46 (gG g []),lB 111 [o0 2 (A.length+1),o0 3 (A.length+1)],Slot.live yy1,Slot.live yy1]))∧(decide (i<n)=false→cP 36 [] [D.agg (gG g [])] (o0 0 (slotsF g).length) [] [Row.data 50 tS (slotsF g)]∧gS g g (sK q77 1∧G 1 (stOf 63 [4,32,33,34] [p0,o0 1 (slotsF g).length,vi (↑(slotsF g).length:Int),vi 0] [lB 111 [o0 2 A.length,o0 3 A.length],lD 50 tS (slotsF g),lD 61 tQ A,lD 61 tQ A])))) hmG (fun G R=>by kernel_rfl) ?_
  try dsimp only
  subst hA;rw[e];obtain⟨fin1,fin2⟩:=fin;simp (disch:=omega) only[take_len,oo,oop,oq,reduceCtorEq];repeat' first|with_reducible apply And.intro|intro _|rfl|omega|assumption|trivial|exact room104 (by omega)|(exfalso;simp_all;done)
 |succ m ih=>
  intro i i0 im;generalize hA:List.replicate i.toNat ((-1:Int),(0:Int))=A
  refine gets_vc spSe (fun k=> [[1,4,15,16],[4,32,33,34],[4,5,7,32,33,34,42,43,44]].getD k []) (fun k=>if k=99 then [⟨2,61,SeT⟩,⟨3,61,SeT⟩] else []) 400 (.fork (.hd 0) (.hd 1)) (V:=fun G R=>let yy1:=(Row.data 61 tQ (List.take A.length (List.drop 0 A)++List.take 1 (List.drop 0 [((-1:Int),(0:Int))])));(decide (i<n)=true→(0:Int)≤0∧(0:Int)< (↑2:Int)∧rM 61 (A.length+1)∧(0:Int)≤0∧(0:Int)< (↑2:Int)∧(0:Int)≤1∧(1:Int)< (↑2:Int)∧rM 61 (A.length+1)∧(0:Int)≤1∧(1:Int)< (↑2:Int)∧sK q77 0∧G 0 (stOf 63 [1,4,15,16] [p0,D.ptr 1 0 0,vi n,vi (IntKind.i64.wrap (i+1))] [lB 46 (gG g []),lB 111 [o0 2 (A.length+1),o0 3 (A.length+1)],Slot.live yy1,Slot.live yy1]))∧(decide (i<n)=false→cP 36 [] [D.agg (gG g [])] (o0 0 (slotsF g).length) [] [Row.data 50 tS (slotsF g)]∧gS g g (sK q77 1∧G 1 (stOf 63 [4,32,33,34] [p0,o0 1 (slotsF g).length,vi (↑(slotsF g).length:Int),vi 0] [lB 111 [o0 2 A.length,o0 3 A.length],lD 50 tS (slotsF g),lD 61 tQ A,lD 61 tQ A])))) hmG (fun G R=>by kernel_rfl) ?_
  try dsimp only
  subst hA;have hx:=ih (i+1) (by omega) (by omega);simp only[show(i+1).toNat=i.toNat+1 by omega,List.replicate_succ',List.length_append,List.length_cons,List.length_nil,Nat.zero_add] at hx;have hl:(List.replicate i.toNat ((-1:Int),(0:Int))).length≤256:=by simp;omega
  simp (disch:=omega) only[take_len,oo,oop,oq,reduceCtorEq];repeat' first|with_reducible apply And.intro|intro _|rfl|omega|assumption|trivial|exact room104 (by omega)|(exfalso;simp_all;done)
theorem d77 (g:Gr):Con Tryd.prog 40 [] [g.d] ((.tup [o0 0 (seatsF g).1.length,o0 1 (seatsF g).2.length])) [] [.data 61 SeT (seatsF g).1,.data 61 SeT (seatsF g).2]:=by
 refine con_vc (how:=[none,none]) (c:=q77) (K:=(KK q77)) spSe (fun k=> [[1,4,15,16],[4,32,33,34],[4,5,7,32,33,34,42,43,44]].getD k []) (fun k=>if k=99 then [⟨2,61,SeT⟩,⟨3,61,SeT⟩] else []) 400 (.fork .stop (.hd 0)) (V:=fun G R=>cP 44 [] [D.agg (gG g [])] (vi (checkF g)) [] []∧gS g g (((checkF g !=0)=true→R (D.tup [o0 0 0,o0 1 0],[],[Row.data 61 tQ [],Row.data 61 tQ []]))∧((checkF g !=0)=false→sK q77 0∧G 0 (stOf 63 [1,4,15,16] [p0,D.ptr 1 0 0,vi g.B.length,vi 0] [lB 46 (gG g []),lB 111 [nD,nD]])))) hmG Tryd.func40 (by kernel_rfl) (by kernel_rfl) (fun G R=>by kernel_rfl) ?_;try dsimp only
 have c:=d43 g;by_cases hc:checkF g=0
 ·have hw:=hw_in (chk0.1 hc).1 (chk0.1 hc).2.1;have sz:=size3 (chk0.1 hc).2.2.1;have e:seatsF g=laySlots 0 (slotsF g) (List.replicate (g.h*g.w).toNat (-1,0)) (List.replicate (g.h*g.w).toNat (-1,0)):=if_pos hc;have es:slotsF g=slotsFrom g (g.h*g.w).toNat 0 0:=if_pos hc;have hS:(slotsF g).length≤600:=by
   have:=sl_len g (g.h*g.w).toNat 0 0;rw[es];omega
  have hop:∀x∈slotsF g,x.2.2.length≤257∧∀c∈x.2.2,0≤c∧c< ((g.h*g.w).toNat:Int):=by
   intro x hx;rw[es] at hx;obtain⟨h1,h2⟩:=slots_open _ _ _ x hx;refine⟨h1,fun c hc=> ?_⟩;have:=open_in (h2 c hc);omega
  have f1:=e77_1 (slotsF g) (g.h*g.w).toNat _ hS hop (slotsF g).length 0 _ _ (by omega) (by omega) (List.length_replicate (n:=(g.h*g.w).toNat) (a:=((-1:Int),(0:Int)))) (List.length_replicate (n:=(g.h*g.w).toNat) (a:=((-1:Int),(0:Int)))) rfl;simp only[show(0:Int).toNat=0 by rfl,List.drop_zero] at f1;rw[←e] at f1;have hn:g.B.length=(g.h*g.w).toNat:=by omega
  have f0:=e77_0 g (g.h*g.w).toNat _ (by omega) ⟨d65 g,f1⟩ ((g.h*g.w).toNat-1) 1 (by omega) (by omega);have f2:=e77_n g (g.h*g.w).toNat _ (by omega) f0;rw[hc] at c;rw[hc,hn];simp (disch:=omega) only[oo,oop,oq,reduceCtorEq];repeat' first|with_reducible apply And.intro|intro _|rfl|assumption|trivial|omega|(exfalso;simp_all;done)
 ·have e:seatsF g=([],[]):=if_neg hc;rw[e];simp (disch:=omega) only[oo,oop,oq,reduceCtorEq];repeat' first|with_reducible apply And.intro|intro _|rfl|assumption|trivial|omega|(exfalso;simp_all;done)
def vq31 (n:Nat) (m:List Nat) (sd:List Bool) (ws:List (List Int)) (s:Int) (ok:Bool) (G:GT) (R:RT):Prop:=let yy0:=(Row.box 151 [nD,nD,vb false]);let yy1:=(NK.mk 27 tI.sl 0 3 tI);let yy2:=(Value.int .i64 (IntKind.i64.wrap (s+1)));let yy3:=(Row.data 22 tU (Mi m));(decide (s<n)=true→(ok=true→0≤s∧s<n∧0+s.toNat<sd.length∧((!sd.getD (0+s.toNat) tB.dflt)=true→sK n60 4∧G 4 (stOf 119 [2,6,7,12,13,15] [p0,o0 1 n,D.own 2 0 n (some n),o0 3 ws.length,vb true,D.v yy2] [Slot.live yy0,Slot.live yy3,lD 4 tB sd,Slot.live (Row.nest yy1 ws none)]))∧((!sd.getD (0+s.toNat) tB.dflt)=false→0≤s∧s<n∧0+s.toNat< (Mi m).length∧sK n60 4∧G 4 (stOf 119 [2,6,7,12,13,15] [p0,o0 1 n,D.own 2 0 n (some n),o0 3 ws.length,vb ((Mi m).getD (0+s.toNat) tU.dflt !=(0:Int)),D.v yy2] [Slot.live yy0,Slot.live yy3,lD 4 tB sd,Slot.live (Row.nest yy1 ws none)])))∧(ok=false→sK n60 4∧G 4 (stOf 119 [2,6,7,12,13,15] [p0,o0 1 n,D.own 2 0 n (some n),o0 3 ws.length,vb false,D.v yy2] [Slot.live yy0,Slot.live yy3,lD 4 tB sd,Slot.live (Row.nest yy1 ws none)])))∧(decide (s<n)=false→R (D.tup [D.agg [o0 0 n,o0 1 ws.length,vb ok],vi 0],[],[Row.data 22 tU (Mi m),Row.nest yy1 ws none]))
theorem e60d (g:Gr) (W:List (List Int)) (M:List Nat) (S:List Slt) (n:Nat) (m:List Nat) (sd:List Bool) (ws:List (List Int)) (hm:m.length=n) (hsd:sd.length=n) (hn:n≤300) (z:Nat):∀(s:Int) (ok:Bool),0≤s→s+z=n→∀r,r=(ok&&restB sd m z s)→GetsK Tryd.prog Tryd.f125.results.toList [none,none] (KK n60) 0 (.tup [.agg [o0 0 n,o0 1 ws.length,vb r],vi 0],[],[.data 22 (.int .u64) (Mi m),.nest kW ws none]) 4 (stOf 119 [2,6,7,12,13,15] [.ptr 0 0 0,o0 1 n,.own 2 0 n (some n),o0 3 ws.length,vb ok,vi s] [lB 151 [.v (.slice none 0 0),.v (.slice none 0 0),vb false],lD 22 (.int .u64) (Mi m),lD 4 .bool sd,.live (.nest kW ws none)]):=by
 induction z with
 |zero=>
  intro s ok s0 hs r hr;have hr:r=ok:=by rw[hr];simp[restB]
  rw[hr];refine gets_vc (flag [2000089] spNa) (fun k=> [[1,2,5,6,7,8],[1,2,5,6,7,8,9],[1,2,5,6,7],[2,6,7,12,13,14],[2,6,7,12,13,15]].getD k []) (fun k=>if k=99 then [⟨2,22,.int .u64⟩,⟨4010002,27,WT⟩] else if k=2 then [⟨1000000006,22,.int .u64⟩] else []) 400 (.fork (.fork (.fork (.hd 4) (.hd 4)) (.hd 4)) .stop) (V:=vq31 n m sd ws s ok) hmG (fun G R=>by kernel_rfl) ?_;unfold vq31;try dsimp only
  simp (disch:=omega) only[oo,oop,oq,reduceCtorEq];repeat' first|with_reducible apply And.intro|intro _|rfl|omega|assumption|trivial|(exfalso;simp_all;done)
 |succ z ih=>
  intro s ok s0 hs r hr;have hs1:IntKind.i64.wrap (s+1)=s+1:=wrG (by omega) (by omega);have hx:=fun ok'=>ih (s+1) ok' (by omega) (by omega);simp only[restB] at hr;refine gets_vc (flag [2000089] spNa) (fun k=> [[1,2,5,6,7,8],[1,2,5,6,7,8,9],[1,2,5,6,7],[2,6,7,12,13,14],[2,6,7,12,13,15]].getD k []) (fun k=>if k=99 then [⟨2,22,.int .u64⟩,⟨4010002,27,WT⟩] else if k=2 then [⟨1000000006,22,.int .u64⟩] else []) 400 (.fork (.fork (.fork (.hd 4) (.hd 4)) (.hd 4)) .stop) (V:=vq31 n m sd ws s ok) hmG (fun G R=>by kernel_rfl) ?_;unfold vq31;try dsimp only
  simp only[Ty.dflt,hs1,take_len,List.drop_zero,List.take_length,Mi_getD,Mi_len,Nt_Mi,Int.toNat_natCast,Mi_set,Nat.zero_add,Nat.sub_zero,set_same,cast_bne0,List.length_set];cases ok with
  |false=>
   have h1:=hx false r (by rw[hr];rfl);simp (disch:=omega) only[oo,oop,oq,reduceCtorEq];repeat' first|with_reducible apply And.intro|intro _|rfl|omega|assumption|trivial|(exfalso;simp_all;done)
  |true=>
   cases hd:sd.getD s.toNat false with
   |false=>
    have h1:=hx true r (by rw[hr,hd];rfl);simp (disch:=omega) only[oo,oop,oq,reduceCtorEq];repeat' first|with_reducible apply And.intro|intro _|rfl|omega|assumption|trivial|(exfalso;simp_all;done)
   |true=>
    have h1:=hx (m.getD s.toNat 0 !=0) r (by rw[hr,hd];rfl);simp (disch:=omega) only[oo,oop,oq,reduceCtorEq];repeat' first|with_reducible apply And.intro|intro _|rfl|omega|assumption|trivial|(exfalso;simp_all;done)
def vq32 (n:Nat) (m:List Nat) (sd:List Bool) (ws:List (List Int)) (s:Int) (ok:Bool) (G:GT) (R:RT):Prop:=let yy0:=(NK.mk 27 tI.sl 0 3 tI);let yy1:=(Row.box 151 [nD,nD,vb false]);let yy2:=(Row.data 22 tU (Mi m));(decide (s<ws.length)=true→(ok=true→0≤s∧s<ws.length∧0+s.toNat<ws.length∧sK n60 3∧G 3 (stOf 119 [2,6,7,12,13,14] [p0,o0 1 n,D.own 2 0 n (some n),o0 3 ws.length,vb (decide ((↑(List.length (ws.getD (0+s.toNat) yy0.t.dflt)):Int)>0)),vi (IntKind.i64.wrap (s+1))] [Slot.live yy1,Slot.live yy2,lD 4 tB sd,Slot.live (Row.nest yy0 (ws.set (0+s.toNat) (List.take (List.length (ws.getD (0+s.toNat) yy0.t.dflt)) (ws.getD (0+s.toNat) yy0.t.dflt))) none)]))∧(ok=false→sK n60 3∧G 3 (stOf 119 [2,6,7,12,13,14] [p0,o0 1 n,D.own 2 0 n (some n),o0 3 ws.length,vb false,vi (IntKind.i64.wrap (s+1))] [Slot.live yy1,Slot.live yy2,lD 4 tB sd,Slot.live (Row.nest yy0 ws none)])))∧(decide (s<ws.length)=false→sK n60 4∧G 4 (stOf 119 [2,6,7,12,13,15] [p0,o0 1 n,D.own 2 0 n (some n),o0 3 ws.length,vb ok,vi 0] [Slot.live yy1,Slot.live yy2,lD 4 tB sd,Slot.live (Row.nest yy0 ws none)]))
theorem e60c (g:Gr) (W:List (List Int)) (M:List Nat) (S:List Slt) (n:Nat) (m:List Nat) (sd:List Bool) (ws:List (List Int)) (hm:m.length=n) (hsd:sd.length=n) (hn:n≤300) (hw:ws.length≤1000) (z:Nat):∀(s:Int) (ok:Bool),0≤s→s+z=ws.length→∀r,r=((ok&&(ws.drop s.toNat).all fun w=>decide ((w.length:Int)>0))&&restB sd m n 0)→GetsK Tryd.prog Tryd.f125.results.toList [none,none] (KK n60) 0 (.tup [.agg [o0 0 n,o0 1 ws.length,vb r],vi 0],[],[.data 22 (.int .u64) (Mi m),.nest kW ws none]) 3 (stOf 119 [2,6,7,12,13,14] [.ptr 0 0 0,o0 1 n,.own 2 0 n (some n),o0 3 ws.length,vb ok,vi s] [lB 151 [.v (.slice none 0 0),.v (.slice none 0 0),vb false],lD 22 (.int .u64) (Mi m),lD 4 .bool sd,.live (.nest kW ws none)]):=by
 induction z with
 |zero=>
  intro s ok s0 hs r hr;rw[List.drop_eq_nil_of_le (by omega)] at hr;have hx:=e60d g W M S n m sd ws hm hsd hn n 0 ok (by omega) (by omega) r (by rw[hr];simp);refine gets_vc (flag [2000089] spNa) (fun k=> [[1,2,5,6,7,8],[1,2,5,6,7,8,9],[1,2,5,6,7],[2,6,7,12,13,14],[2,6,7,12,13,15]].getD k []) (fun k=>if k=99 then [⟨2,22,.int .u64⟩,⟨4010002,27,WT⟩] else if k=2 then [⟨1000000006,22,.int .u64⟩] else []) 400 (.fork (.fork (.hd 3) (.hd 3)) (.hd 4)) (V:=vq32 n m sd ws s ok) hmG (fun G R=>by kernel_rfl) ?_;unfold vq32;try dsimp only
  simp (disch:=omega) only[oo,oop,oq,reduceCtorEq];repeat' first|with_reducible apply And.intro|intro _|rfl|omega|assumption|trivial|(exfalso;simp_all;done)
 |succ z ih=>
  intro s ok s0 hs r hr;have hs1:IntKind.i64.wrap (s+1)=s+1:=wrG (by omega) (by omega);rw[drop_at (xs:=ws) (i:=s) ([]:List Int) s0 (by omega)] at hr;simp only[List.all_cons] at hr;have hx:=fun ok'=>ih (s+1) ok' (by omega) (by omega);refine gets_vc (flag [2000089] spNa) (fun k=> [[1,2,5,6,7,8],[1,2,5,6,7,8,9],[1,2,5,6,7],[2,6,7,12,13,14],[2,6,7,12,13,15]].getD k []) (fun k=>if k=99 then [⟨2,22,.int .u64⟩,⟨4010002,27,WT⟩] else if k=2 then [⟨1000000006,22,.int .u64⟩] else []) 400 (.fork (.fork (.hd 3) (.hd 3)) (.hd 4)) (V:=vq32 n m sd ws s ok) hmG (fun G R=>by kernel_rfl) ?_;unfold vq32;try dsimp only
  simp only[Ty.dflt,hs1,take_len,List.drop_zero,List.take_length,Mi_getD,Mi_len,Nt_Mi,Int.toNat_natCast,Mi_set,Nat.zero_add,Nat.sub_zero,set_same,cast_bne0,List.length_set];cases ok with
  |false=>
   have h1:=hx false r (by rw[hr];rfl);simp (disch:=omega) only[oo,oop,oq,reduceCtorEq];repeat' first|with_reducible apply And.intro|intro _|rfl|omega|assumption|trivial|(exfalso;simp_all;done)
  |true=>
   have h1:=hx (decide (((ws.getD s.toNat []).length:Int)>0)) r (by rw[hr,Bool.true_and]);simp (disch:=omega) only[oo,oop,oq,reduceCtorEq];repeat' first|with_reducible apply And.intro|intro _|rfl|omega|assumption|trivial|(exfalso;simp_all;done)
theorem e60b (g:Gr) (W:List (List Int)) (M:List Nat) (S:List Slt) (n:Nat) (sd:List Bool) (hsd:sd.length=n) (hn:n≤300) (N:Nat):∀(m:List Nat),m.sum<N→m.length=n→Fine W S m→∀mE ws r,mE=gfpF W S m→ws=wordsF W S mE→r=((ws.all fun w=>decide ((w.length:Int)>0))&&restB sd mE n 0)→GetsK Tryd.prog Tryd.f125.results.toList [none,none] (KK n60) 0 (.tup [.agg [o0 0 n,o0 1 ws.length,vb r],vi 0],[],[.data 22 (.int .u64) (Mi mE),.nest kW ws none]) 2 (stOf 119 [1,2,5,6,7] [.ptr 0 0 0,.ptr 1 0 0,slS S,o0 2 n,.own 3 0 n (some n)] [lB 73 (gG g [slW W,slU M]),lB 151 [.v (.slice none 0 0),.v (.slice none 0 0),vb false],lD 22 (.int .u64) (Mi m),lD 4 .bool sd]):=by
 induction N with
 |zero=>intro m h;omega
 |succ N ih=>
  intro m hsum hm F mE ws r h1 h2 h3;have ht:(Mi m).take n=Mi m:=by rw[←hm];exact Mi_take m
  have c1:=d101 g W M S m F;have ol:=once_len W S m;rw[hm] at ol;have ht2:(Mi (onceF W S m)).take n=Mi (onceF W S m):=by rw[←ol];exact Mi_take _
  rw[ol] at c1;have c2:=d102 (Mi (onceF W S m)) (Mi m) (by rw[Mi_len];omega);refine gets_vc (flag [2000089] spNa) (fun k=> [[1,2,5,6,7,8],[1,2,5,6,7,8,9],[1,2,5,6,7],[2,6,7,12,13,14],[2,6,7,12,13,15]].getD k []) (fun k=>if k=99 then [⟨2,22,.int .u64⟩,⟨4010002,27,WT⟩] else if k=2 then [⟨1000000006,22,.int .u64⟩] else []) 400 (.fork (.hd 3) (.hd 2)) (V:=fun G R=>let yy0:=(onceF (Pr.mk g W (Nt (Mi M))).W S (Nt (List.take n (List.drop 0 (Mi m)))));let yy1:=(Pr.mk g W (Nt (Mi M)));let yy2:=(List.drop 0 (Mi m));let yy4:=(List.take yy0.length (List.drop 0 (Mi yy0))=List.take n yy2);let yy6:=(wordsF yy1.W S (Nt (List.take n yy2)));let yy7:=(Row.box 151 [nD,nD,vb false]);cP 146 [] [D.agg (gG yy1.g [sL tI.sl yy1.W,sL tU (Mi yy1.M)]),sL tS S,sL tU (Mi (Nt (List.take n yy2)))] (D.tup [o0 0 yy0.length,o0 1 yy6.length]) [] [Row.data 22 tU (Mi yy0),Row.nest (NK.mk 27 tI.sl 0 3 tI) yy6 none]∧vE g.h yy1.g.h∧vE g.w yy1.g.w∧g.B=yy1.g.B∧g.R=yy1.g.R∧g.L=yy1.g.L∧W=yy1.W∧Mi M=Mi yy1.M∧S=S∧List.take n yy2=Mi (Nt (List.take n yy2))∧cP 95 [] [sL tU (List.take yy0.length (List.drop 0 (Mi yy0))),sL tU (List.take n yy2)] (vb (decide yy4)) [] []∧List.take yy0.length (List.drop 0 (Mi yy0))=List.take yy0.length (List.drop 0 (Mi yy0))∧List.take n yy2=List.take n yy2∧(decide yy4=true→sK n60 3∧G 3 (stOf 119 [2,6,7,12,13,14] [p0,o0 1 n,D.own 2 0 n (some n),o0 3 yy6.length,vb true,vi 0] [Slot.live yy7,lD 22 tU (Mi m),lD 4 tB sd,Slot.live (Row.nest (NK.mk 27 tI.sl 0 3 tI) yy6 none)]))∧(decide yy4=false→sK n60 2∧G 2 (stOf 119 [1,2,5,6,7] [p0,D.ptr 1 0 0,sL tS S,o0 2 yy0.length,D.own 3 0 n (some n)] [lB 73 (gG g [sL tI.sl W,sL tU (Mi M)]),Slot.live yy7,lD 22 tU (List.take yy0.length (List.drop 0 (Mi yy0))),lD 4 tB sd]))) hmG (fun G R=>by kernel_rfl) ?_
  try dsimp only
  simp only[List.drop_zero,Nt_Mi,ht,ol,ht2];by_cases h:onceF W S m=m
  ·rw[gfp_same h] at h1;subst h1;have hwl:ws.length≤1000:=by rw[h2];simp[wordsF];exact F.slots
   have hx:=e60c g W M S n mE sd ws hm hsd hn hwl ws.length 0 true (by omega) (by omega) r (by rw[h3];rfl);rw[←h2] at c1⊢;have e:decide (Mi (onceF W S mE)=Mi mE)=true:=decide_eq_true (by rw[h]);rw[e] at c2;simp only[e];simp (disch:=omega) only[oo,oop,oq,reduceCtorEq];repeat' first|with_reducible apply And.intro|intro _|rfl|omega|assumption|trivial|(exfalso;simp_all;done)
  ·have e:decide (Mi (onceF W S m)=Mi m)=false:=decide_eq_false (fun q=>h (Mi_inj q));rw[e] at c2;have hs:=once_sum h;have F2:Fine W S (onceF W S m):=⟨F.words,F.long,F.slots,fun s hs=>by rw[ol,←hm];exact F.cells s hs,by omega,leq_small (once_leq W S m) F.small⟩;have hx:=ih (onceF W S m) (by omega) ol F2 mE ws r (by rw[h1,fix_step h]) h2 h3;simp only[e];simp (disch:=omega) only[oo,oop,oq,reduceCtorEq];repeat' first|with_reducible apply And.intro|intro _|rfl|omega|assumption|trivial|(exfalso;simp_all;done)
def vq33 (g:Gr) (W:List (List Int)) (M:List Nat) (S:List Slt) (n:Nat) (s:Int) (k:Int) (m:List Nat) (sd:List Bool) (G:GT) (R:RT):Prop:=let yy0:=(S.getD s.toNat tS.dflt);let yy2:=(Row.box 73 (gG g [sL tI.sl W,sL tU (Mi M)]));let yy3:=(List.getD yy0.snd.snd k.toNat tI.dflt);let yy4:=(Row.box 151 [nD,nD,vb false]);0≤s∧s<S.length∧(decide (k< (↑(List.length yy0.snd.snd):Int))=true→0≤s∧s<S.length∧0≤k∧k< (↑(List.length yy0.snd.snd):Int)∧(0:Int)≤List.getD yy0.snd.snd k.toNat tI.dflt∧List.getD yy0.snd.snd k.toNat tI.dflt< (↑(Mi M).length:Int)∧(0:Int)≤List.getD yy0.snd.snd k.toNat tI.dflt∧List.getD yy0.snd.snd k.toNat tI.dflt< (↑n:Int)∧0+Int.toNat yy3< (Mi m).length∧(0:Int)≤List.getD yy0.snd.snd k.toNat tI.dflt∧List.getD yy0.snd.snd k.toNat tI.dflt< (↑n:Int)∧0+Int.toNat yy3<sd.length∧sK n60 1∧G 1 (stOf 119 [1,2,5,6,7,8,9] [p0,D.ptr 1 0 0,sL tS S,D.own 2 0 n (some n),D.own 3 0 n (some n),vi s,vi (IntKind.i64.wrap (k+1))] [Slot.live yy2,Slot.live yy4,lD 22 tU ((Mi m).set (0+Int.toNat yy3) ((Mi M).getD (Int.toNat yy3) tU.dflt)),lD 4 tB (sd.set (0+Int.toNat yy3) true)]))∧(decide (k< (↑(List.length yy0.snd.snd):Int))=false→sK n60 0∧G 0 (stOf 119 [1,2,5,6,7,8] [p0,D.ptr 1 0 0,sL tS S,D.own 2 0 n (some n),D.own 3 0 n (some n),vi (IntKind.i64.wrap (s+1))] [Slot.live yy2,Slot.live yy4,lD 22 tU (Mi m),lD 4 tB sd]))
theorem e60i (g:Gr) (W:List (List Int)) (M:List Nat) (S:List Slt) (n:Nat) (s:Int) (F:Fine W S M) (hn:M.length=n) (s0:0≤s) (s1:s<S.length) (C:List Int) (hC:(S.getD s.toNat (0,false,[])).2.2=C) (mE:List Nat) (sE:List Bool) (rM:List Nat) (rW:List (List Int)) (rO:Bool) (hx:GetsK Tryd.prog Tryd.f125.results.toList [none,none] (KK n60) 0 (.tup [.agg [o0 0 n,o0 1 rW.length,vb rO],vi 0],[],[.data 22 (.int .u64) (Mi rM),.nest kW rW none]) 0 (stOf 119 [1,2,5,6,7,8] [.ptr 0 0 0,.ptr 1 0 0,slS S,.own 2 0 n (some n),.own 3 0 n (some n),vi (s+1)] [lB 73 (gG g [slW W,slU M]),lB 151 [.v (.slice none 0 0),.v (.slice none 0 0),vb false],lD 22 (.int .u64) (Mi mE),lD 4 .bool sE])) (z:Nat):∀(k:Int) (m:List Nat) (sd:List Bool),0≤k→k+z=C.length→m.length=n→sd.length=n→seatCells M (C.drop k.toNat) m=mE→markCells (C.drop k.toNat) sd=sE→GetsK Tryd.prog Tryd.f125.results.toList [none,none] (KK n60) 0 (.tup [.agg [o0 0 n,o0 1 rW.length,vb rO],vi 0],[],[.data 22 (.int .u64) (Mi rM),.nest kW rW none]) 1 (stOf 119 [1,2,5,6,7,8,9] [.ptr 0 0 0,.ptr 1 0 0,slS S,.own 2 0 n (some n),.own 3 0 n (some n),vi s,vi k] [lB 73 (gG g [slW W,slU M]),lB 151 [.v (.slice none 0 0),.v (.slice none 0 0),vb false],lD 22 (.int .u64) (Mi m),lD 4 .bool sd]):=by
 have hs1:IntKind.i64.wrap (s+1)=s+1:=by have:=F.slots;exact wrG (by omega) (by omega)
 have hc1:=F.cells _ (getD_in (d:=(0,false,[])) (k:=s.toNat) (by omega));rw[hC] at hc1;have hsl:=F.slots;induction z with
 |zero=>
  intro k m sd k0 hk hm hsd he hf;rw[List.drop_eq_nil_of_le (by omega)] at he hf;have he:m=mE:=he;have hf:sd=sE:=hf;subst he;subst hf;refine gets_vc (flag [2000089] spNa) (fun k=> [[1,2,5,6,7,8],[1,2,5,6,7,8,9],[1,2,5,6,7],[2,6,7,12,13,14],[2,6,7,12,13,15]].getD k []) (fun k=>if k=99 then [⟨2,22,.int .u64⟩,⟨4010002,27,WT⟩] else if k=2 then [⟨1000000006,22,.int .u64⟩] else []) 400 (.fork (.hd 1) (.hd 0)) (V:=vq33 g W M S n s k m sd) hmG (fun G R=>by kernel_rfl) ?_;unfold vq33;try dsimp only
  simp only[Ty.dflt,hs1,hC];simp (disch:=omega) only[oo,oop,oq,reduceCtorEq];repeat' first|with_reducible apply And.intro|intro _|rfl|omega|assumption|trivial|(exfalso;simp_all;done)
 |succ z ih=>
  intro k m sd k0 hk hm hsd he hf;have hd:=drop_at (xs:=C) (i:=k) (0:Int) k0 (by omega);rw[hd] at he hf;simp only[seatCells,markCells] at he hf;have hk1:IntKind.i64.wrap (k+1)=k+1:=by have:=hc1.1;exact wrG (by omega) (by omega)
  have hc2:=hc1.2 _ (getD_in (d:=0) (k:=k.toNat) (l:=C) (by omega));obtain⟨c,hcc⟩:∃c,C.getD k.toNat 0=c:=⟨_,rfl⟩;rw[hcc] at he hf hc2;have hx2:=ih (k+1) (m.set c.toNat (M.getD c.toNat 0)) (sd.set c.toNat true) (by omega) (by omega) (by rw[List.length_set];exact hm) (by rw[List.length_set];exact hsd) he hf;refine gets_vc (flag [2000089] spNa) (fun k=> [[1,2,5,6,7,8],[1,2,5,6,7,8,9],[1,2,5,6,7],[2,6,7,12,13,14],[2,6,7,12,13,15]].getD k []) (fun k=>if k=99 then [⟨2,22,.int .u64⟩,⟨4010002,27,WT⟩] else if k=2 then [⟨1000000006,22,.int .u64⟩] else []) 400 (.fork (.hd 1) (.hd 0)) (V:=vq33 g W M S n s k m sd) hmG (fun G R=>by kernel_rfl) ?_;unfold vq33;try dsimp only
  simp only[Ty.dflt,hk1,hC,hcc,take_len,List.drop_zero,List.take_length,Mi_getD,Mi_len,Nt_Mi,Int.toNat_natCast,Mi_set,Nat.zero_add,Nat.sub_zero,set_same,cast_bne0,List.length_set];simp (disch:=omega) only[oo,oop,oq,reduceCtorEq];repeat' first|with_reducible apply And.intro|intro _|rfl|omega|assumption|trivial|(exfalso;simp_all;done)
def vq34 (g:Gr) (W:List (List Int)) (M:List Nat) (S:List Slt) (n:Nat) (s:Int) (m:List Nat) (sd:List Bool) (G:GT) (R:RT):Prop:=let yy0:=(Row.box 73 (gG g [sL tI.sl W,sL tU (Mi M)]));let yy1:=(Row.box 151 [nD,nD,vb false]);(decide (s<S.length)=true→sK n60 1∧G 1 (stOf 119 [1,2,5,6,7,8,9] [p0,D.ptr 1 0 0,sL tS S,D.own 2 0 n (some n),D.own 3 0 n (some n),vi s,vi 0] [Slot.live yy0,Slot.live yy1,lD 22 tU (Mi m),lD 4 tB sd]))∧(decide (s<S.length)=false→sK n60 2∧G 2 (stOf 119 [1,2,5,6,7] [p0,D.ptr 1 0 0,sL tS S,o0 2 n,D.own 3 0 n (some n)] [Slot.live yy0,Slot.live yy1,lD 22 tU (List.take n (List.drop 0 (Mi m))),lD 4 tB sd]))
theorem e60a (g:Gr) (W:List (List Int)) (M:List Nat) (S:List Slt) (n:Nat) (F:Fine W S M) (hn:M.length=n) (m0:List Nat) (s0:List Bool) (rM:List Nat) (rW:List (List Int)) (rO:Bool) (h1:rM=gfpF W S m0) (h2:rW=wordsF W S rM) (h3:rO=((rW.all fun w=>decide ((w.length:Int)>0))&&restB s0 rM n 0)) (z:Nat):∀(s:Int) (m:List Nat) (sd:List Bool),0≤s→s+z=S.length→m.length=n→sd.length=n→Smalls m→seatSlots M (S.drop s.toNat) m=m0→markSlots (S.drop s.toNat) sd=s0→GetsK Tryd.prog Tryd.f125.results.toList [none,none] (KK n60) 0 (.tup [.agg [o0 0 n,o0 1 rW.length,vb rO],vi 0],[],[.data 22 (.int .u64) (Mi rM),.nest kW rW none]) 0 (stOf 119 [1,2,5,6,7,8] [.ptr 0 0 0,.ptr 1 0 0,slS S,.own 2 0 n (some n),.own 3 0 n (some n),vi s] [lB 73 (gG g [slW W,slU M]),lB 151 [.v (.slice none 0 0),.v (.slice none 0 0),vb false],lD 22 (.int .u64) (Mi m),lD 4 .bool sd]):=by
 have hsl:=F.slots;have hfs:=F.size;induction z with
 |zero=>
  intro s m sd s0' hs hm hsd hsm h4 h5;rw[List.drop_eq_nil_of_le (by omega)] at h4 h5;have h4:m=m0:=h4;have h5:sd=s0:=h5;subst h4;subst h5;have ht:(Mi m).take n=Mi m:=by rw[←hm];exact Mi_take m
  have F2:Fine W S m:=⟨F.words,F.long,F.slots,fun s hs=>by rw[hm,←hn];exact F.cells s hs,by omega,hsm⟩;have hx:=e60b g W M S n sd hsd (by omega) (m.sum+1) m (by omega) hm F2 rM rW rO h1 h2 h3;refine gets_vc (flag [2000089] spNa) (fun k=> [[1,2,5,6,7,8],[1,2,5,6,7,8,9],[1,2,5,6,7],[2,6,7,12,13,14],[2,6,7,12,13,15]].getD k []) (fun k=>if k=99 then [⟨2,22,.int .u64⟩,⟨4010002,27,WT⟩] else if k=2 then [⟨1000000006,22,.int .u64⟩] else []) 400 (.fork (.hd 1) (.hd 2)) (V:=vq34 g W M S n s m sd) hmG (fun G R=>by kernel_rfl) ?_;unfold vq34;try dsimp only
  simp only[List.drop_zero,ht];simp (disch:=omega) only[oo,oop,oq,reduceCtorEq];repeat' first|with_reducible apply And.intro|intro _|rfl|omega|assumption|trivial|(exfalso;simp_all;done)
 |succ z ih=>
  intro s m sd s0' hs hm hsd hsm h4 h5;have hd:=drop_at (xs:=S) (i:=s) ((0,false,[]):Slt) s0' (by omega);obtain⟨C,hC⟩:∃C,(S.getD s.toNat (0,false,[])).2.2=C:=⟨_,rfl⟩;rw[hd] at h4 h5;simp only[seatSlots,markSlots,hC] at h4 h5;have hx:=ih (s+1) (seatCells M C m) (markCells C sd) (by omega) (by omega) (by rw[seatCells_len];exact hm) (by rw[markCells_len];exact hsd) (seatCells_small F.small C hsm) h4 h5;have hx1:=e60i g W M S n s F hn s0' (by omega) C hC _ _ rM rW rO hx C.length 0 m sd (by omega) (by omega) hm hsd rfl rfl;refine gets_vc (flag [2000089] spNa) (fun k=> [[1,2,5,6,7,8],[1,2,5,6,7,8,9],[1,2,5,6,7],[2,6,7,12,13,14],[2,6,7,12,13,15]].getD k []) (fun k=>if k=99 then [⟨2,22,.int .u64⟩,⟨4010002,27,WT⟩] else if k=2 then [⟨1000000006,22,.int .u64⟩] else []) 400 (.fork (.hd 1) (.hd 2)) (V:=vq34 g W M S n s m sd) hmG (fun G R=>by kernel_rfl) ?_;unfold vq34;try dsimp only
  simp (disch:=omega) only[oo,oop,oq,reduceCtorEq];repeat' first|with_reducible apply And.intro|intro _|rfl|omega|assumption|trivial|(exfalso;simp_all;done)
theorem narM_len (p:Pr) (h:checkP p=0):(narM p).length=p.M.length:=by
 unfold narM m0F;rw[if_pos h,gfp_len,seatSlots_len];simp
theorem d60 (g:Gr) (W:List (List Int)) (M:List Nat) (hM:Smalls M):Con Tryd.prog 125 [] [.agg (gG g [slW W,slU M])] (narVal (narM ⟨g,W,M⟩) (narW ⟨g,W,M⟩) (narO ⟨g,W,M⟩) (checkP ⟨g,W,M⟩)) [] [.data 22 (.int .u64) (Mi (narM ⟨g,W,M⟩)),.nest kW (narW ⟨g,W,M⟩) none]:=by
 refine con_vc (how:=[none,none]) (c:=n60) (K:=(KK n60)) (flag [2000089] spNa) (fun k=> [[1,2,5,6,7,8],[1,2,5,6,7,8,9],[1,2,5,6,7],[2,6,7,12,13,14],[2,6,7,12,13,15]].getD k []) (fun k=>if k=99 then [⟨2,22,.int .u64⟩,⟨4010002,27,WT⟩] else if k=2 then [⟨1000000006,22,.int .u64⟩] else []) 400 (.fork .stop (.hd 0)) (V:=fun G R=>let yy0:=(Pr.mk g W (Nt (Mi M)));let yy1:=(↑(Mi M).length:Int);cP 60 [] [D.agg (gG yy0.g [sL tI.sl yy0.W,sL tU (Mi yy0.M)])] (vi (checkP yy0)) [] []∧gS g yy0.g (W=yy0.W∧Mi M=Mi yy0.M∧((checkP yy0 !=(0:Int))=true→R (D.tup [D.agg [o0 0 0,o0 1 0,vb false],vi (checkP yy0)],[],[Row.data 22 tU [],Row.nest (NK.mk 27 tI.sl 0 3 tI) [] none]))∧((checkP yy0 !=(0:Int))=false→cP 38 [] [D.agg (gG g [])] (sL tS (slotsF g)) [] []∧gS g g ((0:Int)≤yy1∧yy1≤yy1∧yy1≤(9223372036854775807:Int)∧yy1.toNat*8≤281474976710656∧(0:Int)≤yy1∧yy1≤yy1∧yy1≤(9223372036854775807:Int)∧yy1.toNat*1≤281474976710656∧sK n60 0∧G 0 (stOf 119 [1,2,5,6,7,8] [p0,D.ptr 1 0 0,sL tS (slotsF g),D.own 2 0 yy1.toNat (some yy1.toNat),D.own 3 0 yy1.toNat (some yy1.toNat),vi 0] [lB 73 (gG g [sL tI.sl W,sL tU (Mi M)]),lB 151 [nD,nD,vb false],lD 22 tU (List.replicate yy1.toNat (0:Int)),lD 4 tB (List.replicate yy1.toNat false)]))))) hmG Tryd.func125 (by kernel_rfl) (by kernel_rfl) (fun G R=>by kernel_rfl) ?_
 try dsimp only
 try dsimp only
 have c0:=d63 g W M;unfold narVal;simp only[Nt_Mi,Mi_len,Int.toNat_natCast];by_cases h:checkP ⟨g,W,M⟩=0
 ·have F:=fine_of h hM;have hsz:=F.size;have c1:=d100s g;have hr:List.replicate M.length (0:Int)=Mi (List.replicate M.length 0):=Mi_rep _;have hl:=narM_len ⟨g,W,M⟩ h;have e1:narM ⟨g,W,M⟩=gfpF W (slotsF g) (m0F ⟨g,W,M⟩):=if_pos h;have e2:narW ⟨g,W,M⟩=wordsF W (slotsF g) (narM ⟨g,W,M⟩):=if_pos h;have hcell:∀s∈slotsF g,∀c∈s.2.2,0≤c∧c<M.length:=fun s hs=>(F.cells s hs).2;have e3:narO ⟨g,W,M⟩=(((narW ⟨g,W,M⟩).all fun w=>decide ((w.length:Int)>0))&&restB (markSlots (slotsF g) (List.replicate M.length false)) (narM ⟨g,W,M⟩) M.length 0):=by
   rw[rest_all hl hcell];exact if_pos h
  have hx:=e60a g W M (slotsF g) M.length F rfl _ _ _ _ _ e1 e2 e3 (slotsF g).length 0 (List.replicate M.length 0) (List.replicate M.length false) (by omega) (by omega) (by simp) (by simp) (by
   intro x hx;rw[(List.mem_replicate.1 hx).2];decide) rfl rfl
  rw[h] at c0⊢;rw[hl];simp only[hr,show((0:Int) !=0)=false from rfl];simp (disch:=omega) only[oo,oop,oq,reduceCtorEq];repeat' first|with_reducible apply And.intro|intro _|rfl|omega|assumption|trivial|exact c1
 ·have e1:narM ⟨g,W,M⟩=[]:=if_neg h;have e2:narW ⟨g,W,M⟩=[]:=if_neg h;have e3:narO ⟨g,W,M⟩=false:=if_neg h;rw[e1,e2,e3];have hb:(checkP ⟨g,W,M⟩ !=0)=true:=by rw[bne_iff_ne];exact h
  simp only[hb];simp (disch:=omega) only[oo,oop,oq,reduceCtorEq];repeat' first|with_reducible apply And.intro|intro _|rfl|omega|assumption|trivial|(exfalso;simp_all;done)
theorem once_slot {g:Gr} (hc:checkF g=0) {s:Slt} (hs:s∈slotsF g):OnceS s:=by
 intro j k x y hx hy e;obtain⟨i,hi,he⟩:=List.getElem_of_mem hs;have hin:=slots_in hc s hs;have hx0:=hin x (List.mem_of_getElem? hx);have hy0:=hin y (List.mem_of_getElem? hy);have hxy:x=y:=by omega
 subst hxy;have h1:Sits (slotsF g) s.2.1 x i j:=⟨s,by rw[gQ hi,he],rfl,(List.getElem?_eq_some_iff.1 hx).1,by rw[gE,hx];rfl⟩;have h2:Sits (slotsF g) s.2.1 x i k:=⟨s,by rw[gQ hi,he],rfl,(List.getElem?_eq_some_iff.1 hy).1,by rw[gE,hy];rfl⟩;exact(sits_unique hc h1 h2).2
theorem seat_lt {g:Gr} (d:Bool) {c:Int} {v:Int×Int} (h:IsSeat (slotsF g) d c v):v.1< (slotsF g).length:=by
 by_cases e:∃s k,Sits (slotsF g) d c s k
 ·obtain⟨s,k,e⟩:=e;rw[h.1 s k e];obtain⟨x,hx,_⟩:=e;have:=(List.getElem?_eq_some_iff.1 hx).1;show((s:Nat):Int)<_;omega
 ·rw[h.2 fun s k q=>e ⟨s,k,q⟩];show(-1:Int)<_;omega
theorem board_of {g:Gr} {W:List (List Int)} {M:List Nat} (h:checkP ⟨g,W,M⟩=0) (hM:Smalls M):Board W (slotsF g) M.length (seatsF g).1 (seatsF g).2∧(seatsF g).1.length=M.length∧(seatsF g).2.length=M.length:=by
 obtain⟨h1,h2,h3,h4⟩:=checkP_zero h;have F:=fine_of h hM;simp only at h1 h2 h3 h4;have hl:=(seats_are (g:=g) h1 (c:=0) (by omega)).2.2;have hlt:∀c:Nat,((seatsF g).1.getD c (-1,0)).1< (slotsF g).length∧((seatsF g).2.getD c (-1,0)).1< (slotsF g).length:=fun c=>by
  have q:=seats_are (g:=g) h1 (c:=(c:Int)) (by omega);have q1:=seat_lt false q.1;have q2:=seat_lt true q.2.1;unfold sAt at q1 q2;rw[Int.toNat_natCast] at q1 q2;exact⟨q1,q2⟩
 refine⟨⟨fun w hw=>(h3 w hw).2.2,fun j hj=>(F.cells _ (getD_in hj)).2,fun j hj=>once_slot h1 (getD_in hj),fun j hj c hc=> ?_,fun c=>(hlt c).1,fun c=>(hlt c).2⟩,by omega,by omega⟩;have hs:sAtN (slotsF g) j∈slotsF g:=getD_in hj;have hin:=slots_in h1 _ hs c hc;have q:=seats_are (g:=g) h1 (c:=c) hin.1;obtain⟨k,hk,hkc⟩:=List.getElem_of_mem hc;have hsit:Sits (slotsF g) (sAtN (slotsF g) j).2.1 c j k:=⟨sAtN (slotsF g) j,by
  unfold sAtN;rw[gE,gQ hj];rfl,rfl,hk,by rw[gE,gQ hk,hkc];rfl⟩
 cases hd:(sAtN (slotsF g) j).2.1 with
 |false=>
  rw[hd] at hsit;left
  have:=q.1.1 j k hsit;unfold sAt at this;rw[this]
 |true=>
  rw[hd] at hsit;right
  have:=q.2.1.1 j k hsit;unfold sAt at this;rw[this]
theorem inv_start {W:List (List Int)} {S:List Slt} {m0:List Nat} {wt:List Bool} {td:List Int} (q:Queue wt td S.length) (hw:∀j,j<S.length→wt.getD j false=true):Inv W S m0 m0 (mayF W S) wt td:=by
 refine⟨rfl,gfp_leq W S m0,Leq.refl m0,may_len W S,fun j hj=> ?_,fun j hj h=>(by rw[hw j hj] at h;cases h),q⟩;refine⟨fun w=>w.length==(sAtN S j).2.2.length,?_,fun w hw=> ?_,fun w hw=>by simpa using hw⟩
 ·simp[mayF,gE,hj,sAtN]
 ·have:=((fit_iff _ _ _).1 hw).1;simpa using this
theorem Inv.look {W:List (List Int)} {S:List Slt} {m0 m:List Nat} {ms:List (List Int)} {wt:List Bool} {s:Int} {td:List Int} {A D:List (Int×Int)} (B:Board W S m0.length A D) (F:Fine W S m0) (I:Inv W S m0 m ms wt (s::td)):0≤s∧s<S.length∧LookOk W m (slotAt S s).2.2 (ms.getD s.toNat []):=by
 have hs:=I.q.mem s List.mem_cons_self;have hj:s.toNat<S.length:=by omega
 obtain⟨f,hf,hf1,hf2⟩:=I.ok s.toNat hj;have hc:=F.cells _ (getD_in (d:=(0,false,[])) hj);have hfw:=F.words;refine⟨hs.1,hs.2.1,⟨fun i hi=> ?_,by omega,?_,hc.1,fun c h=>by rw[I.len];exact hc.2 c h,leq_small I.hi F.small⟩⟩
 ·rw[hf] at hi;obtain⟨h1,h2,h3,h4⟩:=idx_word hi;exact⟨h1,h2,hf2 _ h4,B.letters _ h3⟩
 ·rw[hf];have:=idx_len f W 0;omega
def nzB (m:List Nat) (c:Int):Bool:=m.getD c.toNat 0 !=0
def restO (S:List Slt) (m:List Nat) (ms:List (List Int)):Nat→Int→Bool
 |0,_=>true
 |z+1,s=>(decide (((ms.getD s.toNat []).length:Int)>0)&&(slotAt S s).2.2.all (nzB m))&&restO S m ms z (s+1)
theorem restO_iff (S:List Slt) (m:List Nat) (ms:List (List Int)):∀(z:Nat) (s:Int),0≤s→(restO S m ms z s=true↔∀j:Nat,s.toNat≤j→j<s.toNat+z→(((ms.getD j []).length:Int)>0∧∀c∈(sAtN S j).2.2,nzB m c=true))
 |0,s,_=>by simp[restO];intros;omega
 |z+1,s,h=>by
  simp only[restO,Bool.and_eq_true,restO_iff S m ms z (s+1) (by omega),decide_eq_true_eq,List.all_eq_true];rw[show(s+1).toNat=s.toNat+1 by omega];constructor
  ·rintro⟨h1,h2⟩ j hj1 hj2
   by_cases e:j=s.toNat
   ·subst e;exact h1
   ·exact h2 j (by omega) (by omega)
  ·intro h1;exact⟨h1 s.toNat (by omega) (by omega),fun j hj1 hj2=>h1 j (by omega) (by omega)⟩
theorem restO_ok {S:List Slt} {m:List Nat} {ms:List (List Int)} (hl:ms.length=S.length):restO S m ms S.length 0=okF S m ms:=by
 apply Bool.eq_iff_iff.2;rw[restO_iff S m ms _ _ (by omega)];unfold okF;rw[Bool.and_eq_true,List.all_eq_true,List.all_eq_true];constructor
 ·intro h;constructor
  ·intro w hw;obtain⟨j,hj,e⟩:=List.getElem_of_mem hw;have:=(h j (by simp) (by simp;omega)).1;rw[gE,gQ hj,e] at this;simpa using this
  ·intro s hs;obtain⟨j,hj,e⟩:=List.getElem_of_mem hs;have:=(h j (by simp) (by simpa using hj)).2;rw[show sAtN S j=s by rw[←e];simp[sAtN,gE,hj]] at this;rw[List.all_eq_true];exact this
 ·rintro⟨h1,h2⟩ j _ hj
  have hj:j<S.length:=by simpa using hj
  constructor
  ·have:=h1 (ms.getD j []) (getD_in (by omega));simpa using this
  ·have:=h2 (sAtN S j) (getD_in hj);rw[List.all_eq_true] at this;exact this
theorem lost_len (th:List Nat):∀(cs:List Int) (k:Nat) (m:List Nat),(lostL th k cs m).length≤cs.length
 | [],_,_=>by simp[lostL]
 |c::cs,k,m=>by
  simp only[lostL];split
  ·have:=lost_len th cs (k+1) m;simp only[List.length_cons];omega
  ·have:=lost_len th cs (k+1) (m.set c.toNat (m.getD c.toNat 0&&&th.getD k 0));simp only[List.length_cons];omega
theorem slots_900 {g:Gr} (h1:checkF g=0):(slotsF g).length≤900:=by
 have hw:=hw_in (chk0.1 h1).1 (chk0.1 h1).2.1;have hl:(slotsF g).length≤2*(g.h*g.w).toNat:=by
  unfold slotsF;rw[if_pos h1];exact sl_len g _ 0 0
 omega
theorem cnt_rep:∀n:Nat,cntT (List.replicate n false)=0
 |0=>rfl
 |n+1=>by rw[List.replicate_succ,cntT,cnt_rep n];rfl
theorem queue_new (n:Nat):Queue (List.replicate n false) [] n:=by
 refine⟨by simp,List.nodup_nil,fun s hs=>by simp at hs,fun j hj=> ?_,by rw[cnt_rep];rfl⟩;rw[gE,List.getElem?_replicate] at hj;split at hj<;>cases hj
def vq35 (W:List (List Int)) (S:List Slt) (n:Nat) (m:List Nat) (ms:List (List Int)) (C:List Int) (s:Int) (k:Int) (ok:Bool) (G:GT) (R:RT):Prop:=let yy1:=(Row.box 176 [sL tI.sl W,sL tS S,D.own 3 0 n (some n),o0 4 ms.length]);let yy2:=(Row.box 151 [nD,nD,vb false]);let yy3:=(Row.nest (NK.mk 27 tI.sl 0 3 tI) ms none);let yy4:=(Value.int .i64 (↑S.length:Int));let yy5:=(Row.data 22 tU (Mi m));(decide (k<C.length)=true→0≤k∧k<C.length∧(ok=true→(0:Int)≤C.getD k.toNat tI.dflt∧C.getD k.toNat tI.dflt< (↑n:Int)∧0+Int.toNat (C.getD k.toNat tI.dflt)< (Mi m).length∧sK n59 4∧G 4 (stOf 143 [2,5,15,99,100,101,121,122,123] [p0,D.ptr 1 0 0,D.ptr 2 0 0,sL tS S,D.v yy4,vi s,sL tI C,vi C.length,vi (IntKind.i64.wrap (k+1))] [Slot.live yy2,Slot.live yy1,lB 151 [D.own 3 0 n (some n),o0 4 ms.length,vb ((Mi m).getD (0+Int.toNat (C.getD k.toNat tI.dflt)) tU.dflt !=(0:Int))],Slot.live yy5,Slot.live yy3]))∧(ok=false→sK n59 4∧G 4 (stOf 143 [2,5,15,99,100,101,121,122,123] [p0,D.ptr 1 0 0,D.ptr 2 0 0,sL tS S,D.v yy4,vi s,sL tI C,vi C.length,vi (IntKind.i64.wrap (k+1))] [Slot.live yy2,Slot.live yy1,lB 151 [D.own 3 0 n (some n),o0 4 ms.length,vb false],Slot.live yy5,Slot.live yy3])))∧(decide (k<C.length)=false→sK n59 3∧G 3 (stOf 143 [2,5,15,99,100,101] [p0,D.ptr 1 0 0,D.ptr 2 0 0,sL tS S,D.v yy4,vi (IntKind.i64.wrap (s+1))] [Slot.live yy2,Slot.live yy1,lB 151 [D.own 3 0 n (some n),o0 4 ms.length,vb ok],Slot.live yy5,Slot.live yy3]))
theorem e59d (W:List (List Int)) (S:List Slt) (n:Nat) (m:List Nat) (ms:List (List Int)) (C:List Int) (s:Int) (hm:m.length=n) (s0:0≤s) (s1:s<1000) (hC:∀c∈C,0≤c∧c<n) (hc:C.length≤300) (rest:Bool) (rE:Bool) (hx:∀ok,rE=(ok&&rest)→GetsK Tryd.prog Tryd.f123.results.toList [none,none] (KK n59) 0 (.tup [.agg [o0 0 n,o0 1 ms.length,vb rE],vi 0],[],[.data 22 (.int .u64) (Mi m),.nest kW ms none]) 3 (stOf 143 [2,5,15,99,100,101] [.ptr 0 0 0,.ptr 1 0 0,.ptr 2 0 0,slS S,vi S.length,vi (s+1)] [lB 151 [.v (.slice none 0 0),.v (.slice none 0 0),vb false],lB 176 [slW W,slS S,.own 3 0 n (some n),o0 4 ms.length],lB 151 [.own 3 0 n (some n),o0 4 ms.length,vb ok],lD 22 (.int .u64) (Mi m),.live (.nest kW ms none)])) (z:Nat):∀(k:Int) (ok:Bool),0≤k→k+z=C.length→rE=((ok&&(C.drop k.toNat).all (nzB m))&&rest)→GetsK Tryd.prog Tryd.f123.results.toList [none,none] (KK n59) 0 (.tup [.agg [o0 0 n,o0 1 ms.length,vb rE],vi 0],[],[.data 22 (.int .u64) (Mi m),.nest kW ms none]) 4 (stOf 143 [2,5,15,99,100,101,121,122,123] [.ptr 0 0 0,.ptr 1 0 0,.ptr 2 0 0,slS S,vi S.length,vi s,slI C,vi C.length,vi k] [lB 151 [.v (.slice none 0 0),.v (.slice none 0 0),vb false],lB 176 [slW W,slS S,.own 3 0 n (some n),o0 4 ms.length],lB 151 [.own 3 0 n (some n),o0 4 ms.length,vb ok],lD 22 (.int .u64) (Mi m),.live (.nest kW ms none)]):=by
 have hs1:IntKind.i64.wrap (s+1)=s+1:=wrG (by omega) (by omega);induction z with
 |zero=>
  intro k ok k0 hk hr;rw[List.drop_eq_nil_of_le (by omega)] at hr;have h1:=hx ok (by rw[hr];simp);refine gets_vc (flag [2000115] spNa) (fun k=> [[2,5,6,7,8,9,10,45,46],[2,5,6,7,8,9,10],[2,5,6,7,8,9,10,66,67,68],[2,5,15,99,100,101],[2,5,15,99,100,101,121,122,123]].getD k []) (fun k=>if k<3 then [⟨1000000008,3,.int .i64⟩] else if k=99 then [⟨1000000002,22,.int .u64⟩,⟨4010002,27,WT⟩] else []) 400 (.fork (.fork (.hd 4) (.hd 4)) (.hd 3)) (V:=vq35 W S n m ms C s k ok) hmG (fun G R=>by kernel_rfl) ?_;unfold vq35;try dsimp only
  simp only[hs1];simp (disch:=omega) only[oo,oop,oq,reduceCtorEq];repeat' first|with_reducible apply And.intro|intro _|rfl|omega|assumption|trivial|(exfalso;simp_all;done)
 |succ z ih=>
  intro k ok k0 hk hr;have hk1:IntKind.i64.wrap (k+1)=k+1:=wrG (by omega) (by omega);rw[drop_at (xs:=C) (i:=k) (0:Int) k0 (by omega)] at hr;simp only[List.all_cons] at hr;have hcc:=hC _ (getD_in (d:=0) (k:=k.toNat) (l:=C) (by omega));have ih2:=fun ok'=>ih (k+1) ok' (by omega) (by omega);refine gets_vc (flag [2000115] spNa) (fun k=> [[2,5,6,7,8,9,10,45,46],[2,5,6,7,8,9,10],[2,5,6,7,8,9,10,66,67,68],[2,5,15,99,100,101],[2,5,15,99,100,101,121,122,123]].getD k []) (fun k=>if k<3 then [⟨1000000008,3,.int .i64⟩] else if k=99 then [⟨1000000002,22,.int .u64⟩,⟨4010002,27,WT⟩] else []) 400 (.fork (.fork (.hd 4) (.hd 4)) (.hd 3)) (V:=vq35 W S n m ms C s k ok) hmG (fun G R=>by kernel_rfl) ?_;unfold vq35;try dsimp only
  simp only[Ty.dflt,hk1,take_len,List.drop_zero,List.take_length,Mi_getD,Mi_len,Nt_Mi,Int.toNat_natCast,Mi_set,Nat.zero_add,Nat.sub_zero,set_same,cast_bne0,List.length_set];cases ok with
  |false=>
   have h1:=ih2 false (by rw[hr];rfl);simp (disch:=omega) only[oo,oop,oq,reduceCtorEq];repeat' first|with_reducible apply And.intro|intro _|rfl|omega|assumption|trivial|(exfalso;simp_all;done)
  |true=>
   have h1:=ih2 (m.getD (C.getD k.toNat 0).toNat 0 !=0) (by rw[hr,Bool.true_and];rfl);simp (disch:=omega) only[oo,oop,oq,reduceCtorEq];repeat' first|with_reducible apply And.intro|intro _|rfl|omega|assumption|trivial|(exfalso;simp_all;done)
def vq36 (W:List (List Int)) (S:List Slt) (n:Nat) (m:List Nat) (ms:List (List Int)) (s:Int) (ok:Bool) (G:GT) (R:RT):Prop:=let yy2:=(Row.box 176 [sL tI.sl W,sL tS S,D.own 3 0 n (some n),o0 4 ms.length]);let yy3:=(NK.mk 27 tI.sl 0 3 tI);let yy4:=(Row.box 151 [nD,nD,vb false]);let yy5:=(Value.int .i64 (↑(List.length (S.getD s.toNat tS.dflt).snd.snd):Int));(decide (s<S.length)=true→0≤s∧s<S.length∧(ok=true→0≤s∧s<ms.length∧0+s.toNat<ms.length∧sK n59 4∧G 4 (stOf 143 [2,5,15,99,100,101,121,122,123] [p0,D.ptr 1 0 0,D.ptr 2 0 0,sL tS S,vi S.length,vi s,sL tI (S.getD s.toNat tS.dflt).snd.snd,D.v yy5,vi 0] [Slot.live yy4,Slot.live yy2,lB 151 [D.own 3 0 n (some n),o0 4 ms.length,vb (decide ((↑(List.length (ms.getD (0+s.toNat) yy3.t.dflt)):Int)>0))],lD 22 tU (Mi m),Slot.live (Row.nest yy3 (ms.set (0+s.toNat) (List.take (List.length (ms.getD (0+s.toNat) yy3.t.dflt)) (ms.getD (0+s.toNat) yy3.t.dflt))) none)]))∧(ok=false→sK n59 4∧G 4 (stOf 143 [2,5,15,99,100,101,121,122,123] [p0,D.ptr 1 0 0,D.ptr 2 0 0,sL tS S,vi S.length,vi s,sL tI (S.getD s.toNat tS.dflt).snd.snd,D.v yy5,vi 0] [Slot.live yy4,Slot.live yy2,lB 151 [D.own 3 0 n (some n),o0 4 ms.length,vb false],lD 22 tU (Mi m),Slot.live (Row.nest yy3 ms none)])))∧(decide (s<S.length)=false→R (D.tup [D.agg [o0 0 n,o0 1 ms.length,vb ok],vi 0],[],[Row.data 22 tU (List.take n (List.drop 0 (Mi m))),Row.nest yy3 ms none]))
theorem e59c (W:List (List Int)) (S:List Slt) (n:Nat) (m:List Nat) (ms:List (List Int)) (hm:m.length=n) (hms:ms.length=S.length) (hS:S.length≤900) (hcell:∀j,j<S.length→(sAtN S j).2.2.length≤300∧∀c∈(sAtN S j).2.2,0≤c∧c<n) (rE:Bool) (z:Nat):∀(s:Int) (ok:Bool),0≤s→s+z=S.length→rE=(ok&&restO S m ms z s)→GetsK Tryd.prog Tryd.f123.results.toList [none,none] (KK n59) 0 (.tup [.agg [o0 0 n,o0 1 ms.length,vb rE],vi 0],[],[.data 22 (.int .u64) (Mi m),.nest kW ms none]) 3 (stOf 143 [2,5,15,99,100,101] [.ptr 0 0 0,.ptr 1 0 0,.ptr 2 0 0,slS S,vi S.length,vi s] [lB 151 [.v (.slice none 0 0),.v (.slice none 0 0),vb false],lB 176 [slW W,slS S,.own 3 0 n (some n),o0 4 ms.length],lB 151 [.own 3 0 n (some n),o0 4 ms.length,vb ok],lD 22 (.int .u64) (Mi m),.live (.nest kW ms none)]):=by
 have ht:(Mi m).take n=Mi m:=by rw[←hm];exact Mi_take m
 induction z with
 |zero=>
  intro s ok s0 hs hr;have hr:rE=ok:=by rw[hr];simp[restO]
  rw[hr];refine gets_vc (flag [2000115] spNa) (fun k=> [[2,5,6,7,8,9,10,45,46],[2,5,6,7,8,9,10],[2,5,6,7,8,9,10,66,67,68],[2,5,15,99,100,101],[2,5,15,99,100,101,121,122,123]].getD k []) (fun k=>if k<3 then [⟨1000000008,3,.int .i64⟩] else if k=99 then [⟨1000000002,22,.int .u64⟩,⟨4010002,27,WT⟩] else []) 400 (.fork (.fork (.hd 4) (.hd 4)) .stop) (V:=vq36 W S n m ms s ok) hmG (fun G R=>by kernel_rfl) ?_;unfold vq36;try dsimp only
  simp only[List.drop_zero,ht];simp (disch:=omega) only[oo,oop,oq,reduceCtorEq];repeat' first|with_reducible apply And.intro|intro _|rfl|omega|assumption|trivial|(exfalso;simp_all;done)
 |succ z ih=>
  intro s ok s0 hs hr;obtain⟨C,hC⟩:∃C,(S.getD s.toNat (0,false,[])).2.2=C:=⟨_,rfl⟩;have hc1:=hcell s.toNat (by omega);unfold sAtN at hc1;rw[hC] at hc1;simp only[restO,slotAt,hC] at hr;have ih2:=fun ok'=>ih (s+1) ok' (by omega) (by omega);have hd:=fun ok' hr'=>e59d W S n m ms C s hm s0 (by omega) hc1.2 hc1.1 (restO S m ms z (s+1)) rE ih2 C.length 0 ok' (by omega) (by omega) hr';simp only[show(0:Int).toNat=0 by rfl,List.drop_zero] at hd;refine gets_vc (flag [2000115] spNa) (fun k=> [[2,5,6,7,8,9,10,45,46],[2,5,6,7,8,9,10],[2,5,6,7,8,9,10,66,67,68],[2,5,15,99,100,101],[2,5,15,99,100,101,121,122,123]].getD k []) (fun k=>if k<3 then [⟨1000000008,3,.int .i64⟩] else if k=99 then [⟨1000000002,22,.int .u64⟩,⟨4010002,27,WT⟩] else []) 400 (.fork (.fork (.hd 4) (.hd 4)) .stop) (V:=vq36 W S n m ms s ok) hmG (fun G R=>by kernel_rfl) ?_;unfold vq36;try dsimp only
  simp only[Ty.dflt,hC,take_len,List.drop_zero,List.take_length,Mi_getD,Mi_len,Nt_Mi,Int.toNat_natCast,Mi_set,Nat.zero_add,Nat.sub_zero,set_same,cast_bne0,List.length_set];cases ok with
  |false=>
   have h1:=hd false (by rw[hr];simp);simp (disch:=omega) only[oo,oop,oq,reduceCtorEq];repeat' first|with_reducible apply And.intro|intro _|rfl|omega|assumption|trivial|(exfalso;simp_all;done)
  |true=>
   have h1:=hd (decide (((ms.getD s.toNat []).length:Int)>0)) (by rw[hr,Bool.true_and]);simp (disch:=omega) only[oo,oop,oq,reduceCtorEq];repeat' first|with_reducible apply And.intro|intro _|rfl|omega|assumption|trivial|(exfalso;simp_all;done)
def vq37 (W:List (List Int)) (S:List Slt) (A:List (Int×Int)) (Z:List (Int×Int)) (n:Nat) (N:Nat) (m:List Nat) (ms:List (List Int)) (lo:List Int) (k:Int) (wt:List Bool) (td:List Int) (G:GT) (R:RT):Prop:=let yy0:=(putF wt td (A.getD (0+Int.toNat (lo.getD (0+k.toNat) tI.dflt)) tQ.dflt).fst);let yy2:=(Z.getD (0+Int.toNat (lo.getD (0+k.toNat) tI.dflt)) tQ.dflt);let yy3:=(putF yy0.fst yy0.snd yy2.fst);let yy4:=(A.getD (0+Int.toNat (lo.getD (0+k.toNat) tI.dflt)) tQ.dflt);let yy5:=(Row.box 44 [D.own 10 0 N (some N)]);let yy6:=(Row.box 151 [nD,nD,vb false]);(decide (k<lo.length)=true→0≤k∧k<lo.length∧0+k.toNat<lo.length∧(0:Int)≤lo.getD (0+k.toNat) tI.dflt∧lo.getD (0+k.toNat) tI.dflt< (↑A.length:Int)∧0+Int.toNat (lo.getD (0+k.toNat) tI.dflt)<A.length∧cP 144 [Row.box 44 [D.own 1 0 N (some N)],Row.data 4 tB wt,Row.box 27 [o0 3 td.length],Row.data 3 tI td] [vi yy4.fst,p0,D.ptr 2 0 0] (D.tup []) [some (Row.box 44 [D.own 1 0 N (some N)]),some (Row.data 4 tB yy0.fst),some (Row.box 27 [o0 4 yy0.snd.length]),none] [Row.data 3 tI yy0.snd]∧vE yy4.fst yy4.fst∧5=5∧0=0∧0=0∧4=4∧0=0∧0=0∧yy0.fst.length=wt.length∧some yy5=some yy5∧some (Row.data 4 tB wt)=some (Row.data 4 tB wt)∧some (Row.box 27 [o0 9 td.length])=some (Row.box 27 [o0 9 td.length])∧some (Row.data 3 tI td)=some (Row.data 3 tI td)∧(0:Int)≤lo.getD (0+k.toNat) tI.dflt∧lo.getD (0+k.toNat) tI.dflt< (↑Z.length:Int)∧0+Int.toNat (lo.getD (0+k.toNat) tI.dflt)<Z.length∧cP 144 [Row.box 44 [D.own 1 0 N (some N)],Row.data 4 tB yy0.fst,Row.box 27 [o0 3 yy0.snd.length],Row.data 3 tI yy0.snd] [vi yy2.fst,p0,D.ptr 2 0 0] (D.tup []) [some (Row.box 44 [D.own 1 0 N (some N)]),some (Row.data 4 tB yy3.fst),some (Row.box 27 [o0 4 yy3.snd.length]),none] [Row.data 3 tI yy3.snd]∧vE yy2.fst yy2.fst∧5=5∧0=0∧0=0∧4=4∧0=0∧0=0∧yy3.fst.length=yy0.fst.length∧some yy5=some yy5∧some (Row.data 4 tB yy0.fst)=some (Row.data 4 tB yy0.fst)∧some (Row.box 27 [o0 11 yy0.snd.length])=some (Row.box 27 [o0 11 yy0.snd.length])∧some (Row.data 3 tI yy0.snd)=some (Row.data 3 tI yy0.snd)∧sK n59 2∧G 2 (stOf 143 [2,5,6,7,8,9,10,66,67,68] [p0,D.ptr 1 0 0,o0 2 A.length,o0 3 Z.length,D.ptr 4 0 0,D.ptr 5 0 0,D.fn 144 [D.ptr 5 0 0,D.ptr 4 0 0],o0 6 lo.length,vi lo.length,vi (IntKind.i64.wrap (k+1))] [Slot.live yy6,lB 176 [sL tI.sl W,sL tS S,D.own 7 0 n (some n),o0 8 ms.length],lD 61 tQ A,lD 61 tQ Z,lB 27 [o0 9 yy3.snd.length],Slot.live yy5,lD 3 tI lo,lD 22 tU (Mi m),Slot.live (Row.nest (NK.mk 27 tI.sl 0 3 tI) ms none),lD 3 tI (List.take yy3.snd.length (List.drop 0 yy3.snd)),lD 4 tB yy3.fst]))∧(decide (k<lo.length)=false→sK n59 1∧G 1 (stOf 143 [2,5,6,7,8,9,10] [p0,D.ptr 1 0 0,o0 2 A.length,o0 3 Z.length,D.ptr 4 0 0,D.ptr 5 0 0,D.fn 144 [D.ptr 5 0 0,D.ptr 4 0 0]] [Slot.live yy6,lB 176 [sL tI.sl W,sL tS S,D.own 6 0 n (some n),o0 7 ms.length],lD 61 tQ A,lD 61 tQ Z,lB 27 [o0 8 td.length],lB 44 [D.own 9 0 N (some N)],lD 22 tU (Mi m),Slot.live (Row.nest (NK.mk 27 tI.sl 0 3 tI) ms none),lD 3 tI (List.take td.length (List.drop 0 td)),lD 4 tB wt]))
theorem e59b (W:List (List Int)) (S:List Slt) (A Z:List (Int×Int)) (n N:Nat) (m:List Nat) (ms:List (List Int)) (lo:List Int) (hN:N≤900) (hlo:lo.length≤300) (hA:A.length=n) (hZ:Z.length=n) (hl:∀c∈lo,0≤c∧c<n) (iA:∀c:Nat,(A.getD c (-1,0)).1<N) (iZ:∀c:Nat,(Z.getD c (-1,0)).1<N) (tE:List Int) (wE:List Bool) (mE:List Nat) (sE:List (List Int)) (rE:Bool) (hx:GetsK Tryd.prog Tryd.f123.results.toList [none,none] (KK n59) 0 (.tup [.agg [o0 0 n,o0 1 sE.length,vb rE],vi 0],[],[.data 22 (.int .u64) (Mi mE),.nest kW sE none]) 1 (stOf 143 [2,5,6,7,8,9,10] [.ptr 0 0 0,.ptr 1 0 0,o0 2 A.length,o0 3 Z.length,.ptr 4 0 0,.ptr 5 0 0,.fn 144 [.ptr 5 0 0,.ptr 4 0 0]] [lB 151 [.v (.slice none 0 0),.v (.slice none 0 0),vb false],lB 176 [slW W,slS S,.own 6 0 n (some n),o0 7 ms.length],lD 61 SeT A,lD 61 SeT Z,lB 27 [o0 8 tE.length],lB 44 [.own 9 0 N (some N)],lD 22 (.int .u64) (Mi m),.live (.nest kW ms none),lD 3 (.int .i64) tE,lD 4 .bool wE])) (z:Nat):∀(k:Int) (wt:List Bool) (td:List Int),0≤k→k+z=lo.length→Queue wt td N→putsF A Z (lo.drop k.toNat) (wt,td)=(wE,tE)→GetsK Tryd.prog Tryd.f123.results.toList [none,none] (KK n59) 0 (.tup [.agg [o0 0 n,o0 1 sE.length,vb rE],vi 0],[],[.data 22 (.int .u64) (Mi mE),.nest kW sE none]) 2 (stOf 143 [2,5,6,7,8,9,10,66,67,68] [.ptr 0 0 0,.ptr 1 0 0,o0 2 A.length,o0 3 Z.length,.ptr 4 0 0,.ptr 5 0 0,.fn 144 [.ptr 5 0 0,.ptr 4 0 0],o0 6 lo.length,vi lo.length,vi k] [lB 151 [.v (.slice none 0 0),.v (.slice none 0 0),vb false],lB 176 [slW W,slS S,.own 7 0 n (some n),o0 8 ms.length],lD 61 SeT A,lD 61 SeT Z,lB 27 [o0 9 td.length],lB 44 [.own 10 0 N (some N)],lD 3 (.int .i64) lo,lD 22 (.int .u64) (Mi m),.live (.nest kW ms none),lD 3 (.int .i64) td,lD 4 .bool wt]):=by
 induction z with
 |zero=>
  intro k wt td k0 hk q he;rw[List.drop_eq_nil_of_le (by omega)] at he;have he:(wt,td)=(wE,tE):=he;rw[Prod.mk.injEq] at he;obtain⟨rfl,rfl⟩:=he;refine gets_vc (flag [2000115] spNa) (fun k=> [[2,5,6,7,8,9,10,45,46],[2,5,6,7,8,9,10],[2,5,6,7,8,9,10,66,67,68],[2,5,15,99,100,101],[2,5,15,99,100,101,121,122,123]].getD k []) (fun k=>if k<3 then [⟨1000000008,3,.int .i64⟩] else if k=99 then [⟨1000000002,22,.int .u64⟩,⟨4010002,27,WT⟩] else []) 400 (.fork (.hd 2) (.hd 1)) (V:=vq37 W S A Z n N m ms lo k wt td) hmG (fun G R=>by kernel_rfl) ?_;unfold vq37;try dsimp only
  simp only[List.drop_zero,List.take_length];simp (disch:=omega) only[oo,oop,oq,reduceCtorEq];repeat' first|with_reducible apply And.intro|intro _|rfl|omega|assumption|trivial|(exfalso;simp_all;done)
 |succ z ih=>
  intro k wt td k0 hk q he;have hk1:IntKind.i64.wrap (k+1)=k+1:=wrG (by omega) (by omega);rw[drop_at (xs:=lo) (i:=k) (0:Int) k0 (by omega)] at he;simp only[putsF] at he;have hc:=hl _ (getD_in (d:=0) (k:=k.toNat) (l:=lo) (by omega));obtain⟨c,hcc⟩:∃c,lo.getD k.toNat 0=c:=⟨_,rfl⟩;rw[hcc] at he hc;have a0:(A.getD c.toNat (0,0))=A.getD c.toNat (-1,0):=by
   rw[gE,gE,gQ (by omega)];rfl
  have z0:(Z.getD c.toNat (0,0))=Z.getD c.toNat (-1,0):=by
   rw[gE,gE,gQ (by omega)];rfl
  obtain⟨q1,_,_⟩:=put_queue q (iA c.toNat);obtain⟨q2,_,_⟩:=put_queue q1 (iZ c.toNat);have l0:=q.long;have l1:=q1.long;have c1:=d98 (A.getD c.toNat (-1,0)).1 N td.length wt td q.len rfl (iA _) (by omega);have c2:=d98 (Z.getD c.toNat (-1,0)).1 N (putF wt td (A.getD c.toNat (-1,0)).1).2.length (putF wt td (A.getD c.toNat (-1,0)).1).1 (putF wt td (A.getD c.toNat (-1,0)).1).2 q1.len rfl (iZ _) (by omega);have h1:=ih (k+1) _ _ (by omega) (by omega) q2 he;have n1:(putF wt td (A.getD c.toNat (-1,0)).1).1.length=wt.length:=by rw[q1.len,q.len]
  have n2:(putF (putF wt td (A.getD c.toNat (-1,0)).1).1 (putF wt td (A.getD c.toNat (-1,0)).1).2 (Z.getD c.toNat (-1,0)).1).1.length=(putF wt td (A.getD c.toNat (-1,0)).1).1.length:=by rw[q2.len,q1.len]
  refine gets_vc (flag [2000115] spNa) (fun k=> [[2,5,6,7,8,9,10,45,46],[2,5,6,7,8,9,10],[2,5,6,7,8,9,10,66,67,68],[2,5,15,99,100,101],[2,5,15,99,100,101,121,122,123]].getD k []) (fun k=>if k<3 then [⟨1000000008,3,.int .i64⟩] else if k=99 then [⟨1000000002,22,.int .u64⟩,⟨4010002,27,WT⟩] else []) 400 (.fork (.hd 2) (.hd 1)) (V:=vq37 W S A Z n N m ms lo k wt td) hmG (fun G R=>by kernel_rfl) ?_;unfold vq37;try dsimp only
  simp only[Ty.dflt,hk1,Nat.zero_add,hcc,a0,z0,List.drop_zero,List.take_length];simp (disch:=omega) only[oo,oop,oq,reduceCtorEq];repeat' first|with_reducible apply And.intro|intro _|rfl|omega|assumption|trivial|(exfalso;simp_all;done)
theorem e59a (W:List (List Int)) (S:List Slt) (A Z:List (Int×Int)) (n:Nat) (m0:List Nat) (hn:m0.length=n) (F:Fine W S m0) (hS:S.length≤900) (B:Board W S m0.length A Z) (hA:A.length=n) (hZ:Z.length=n) (N:Nat) (hN:N=S.length) (mE:List Nat) (sE:List (List Int)) (rE:Bool) (h1:mE=gfpF W S m0) (h2:sE=wordsF W S mE) (h3:rE=okF S mE sE) (q:Nat):∀(m:List Nat) (ms:List (List Int)) (wt:List Bool) (td:List Int),m.sum*(S.length+1)+td.length<q→Inv W S m0 m ms wt td→GetsK Tryd.prog Tryd.f123.results.toList [none,none] (KK n59) 0 (.tup [.agg [o0 0 n,o0 1 sE.length,vb rE],vi 0],[],[.data 22 (.int .u64) (Mi mE),.nest kW sE none]) 1 (stOf 143 [2,5,6,7,8,9,10] [.ptr 0 0 0,.ptr 1 0 0,o0 2 A.length,o0 3 Z.length,.ptr 4 0 0,.ptr 5 0 0,.fn 144 [.ptr 5 0 0,.ptr 4 0 0]] [lB 151 [.v (.slice none 0 0),.v (.slice none 0 0),vb false],lB 176 [slW W,slS S,.own 6 0 n (some n),o0 7 ms.length],lD 61 SeT A,lD 61 SeT Z,lB 27 [o0 8 td.length],lB 44 [.own 9 0 N (some N)],lD 22 (.int .u64) (Mi m),.live (.nest kW ms none),lD 3 (.int .i64) td,lD 4 .bool wt]):=by
 induction q with
 |zero=>intro m ms wt td h;omega
 |succ q ih=>
  intro m ms wt td hq I;have hm:m.length=n:=by rw[I.len,hn]
  cases td with
  |nil=>
   obtain⟨e1,e2⟩:=I.done;rw[←h1] at e1;rw[e1,←h2] at e2;subst e1;subst e2;have hx:=e59c W S n m ms hm I.may hS (fun j hj=>by
    have:=F.cells _ (getD_in (d:=(0,false,[])) hj);rw[hn] at this;exact this) rE S.length 0 true (by omega) (by omega) (by rw[restO_ok I.may,h3];rfl)
   refine gets_vc (flag [2000115] spNa) (fun k=> [[2,5,6,7,8,9,10,45,46],[2,5,6,7,8,9,10],[2,5,6,7,8,9,10,66,67,68],[2,5,15,99,100,101],[2,5,15,99,100,101,121,122,123]].getD k []) (fun k=>if k<3 then [⟨1000000008,3,.int .i64⟩] else if k=99 then [⟨1000000002,22,.int .u64⟩,⟨4010002,27,WT⟩] else []) 400 (.fork (.hd 2) (.hd 3)) (V:=fun G R=>let yy2:=(NK.mk 27 tI.sl 0 3 tI);let yy3:=(Row.box 176 [sL tI.sl W,sL tS S,D.own 6 0 n (some n),o0 7 ms.length]);let yy4:=(Row.box 151 [nD,nD,vb false]);(decide ((↑0:Int)>0)=true→(0:Int)≤0∧(0:Int)< (↑0:Int)∧0<0∧(0:Int)≤1∧(1:Int)≤(↑0:Int)∧(↑0:Int)≤(↑0:Int)∧(0:Int)≤ [].getD 0 tI.dflt∧[].getD 0 tI.dflt< (↑N:Int)∧0<wt.length∧cP 145 [Row.box 176 [sL tI.sl W,sL tS S,D.own 1 0 n (some n),o0 2 ms.length],Row.data 22 tU (Mi (Nt (Mi m))),Row.nest yy2 ms none] [p0,vi ([].getD 0 tI.dflt)] (o0 3 (lostC W (Nt (Mi m)) (slotAt S ([].getD 0 tI.dflt)).snd.snd (ms.getD 0 [])).length) [some (Row.box 176 [sL tI.sl W,sL tS S,D.own 1 0 n (some n),o0 2 ms.length]),some (Row.data 22 tU (Mi (lookC W (Nt (Mi m)) (slotAt S ([].getD 0 tI.dflt)).snd.snd (ms.getD 0 [])))),some (Row.nest yy2 (ms.set 0 (keepI W (Nt (Mi m)) (slotAt S ([].getD 0 tI.dflt)).snd.snd (ms.getD 0 []))) none)] [Row.data 3 tI (lostC W (Nt (Mi m)) (slotAt S ([].getD 0 tI.dflt)).snd.snd (ms.getD 0 []))]∧1=1∧0=0∧0=0∧vE ([].getD 0 tI.dflt) ([].getD 0 tI.dflt)∧(Mi (lookC W (Nt (Mi m)) (slotAt S ([].getD 0 tI.dflt)).snd.snd (ms.getD 0 []))).length=(Mi (Nt (Mi m))).length∧(ms.set 0 (keepI W (Nt (Mi m)) (slotAt S ([].getD 0 tI.dflt)).snd.snd (ms.getD 0 []))).length=ms.length∧some yy3=some yy3∧some (Row.data 22 tU (Mi m))=some (Row.data 22 tU (Mi (Nt (Mi m))))∧some (Row.nest yy2 ms none)=some (Row.nest yy2 ms none)∧sK n59 2∧G 2 (stOf 143 [2,5,6,7,8,9,10,66,67,68] [p0,D.ptr 1 0 0,o0 2 A.length,o0 3 Z.length,D.ptr 4 0 0,D.ptr 5 0 0,D.fn 144 [D.ptr 5 0 0,D.ptr 4 0 0],o0 6 (lostC W (Nt (Mi m)) (slotAt S ([].getD 0 tI.dflt)).snd.snd (ms.getD 0 [])).length,vi (↑(lostC W (Nt (Mi m)) (slotAt S ([].getD 0 tI.dflt)).snd.snd (ms.getD 0 [])).length:Int),vi 0] [Slot.live yy4,lB 176 [sL tI.sl W,sL tS S,D.own 7 0 n (some n),o0 8 ms.length],lD 61 tQ A,lD 61 tQ Z,lB 27 [o0 9 0],lB 44 [D.own 10 0 N (some N)],lD 3 tI (lostC W (Nt (Mi m)) (slotAt S ([].getD 0 tI.dflt)).snd.snd (ms.getD 0 [])),lD 22 tU (Mi (lookC W (Nt (Mi m)) (slotAt S ([].getD 0 tI.dflt)).snd.snd (ms.getD 0 []))),Slot.live (Row.nest yy2 (ms.set 0 (keepI W (Nt (Mi m)) (slotAt S ([].getD 0 tI.dflt)).snd.snd (ms.getD 0 []))) none),lD 3 tI (List.take 0 (List.drop 1 [])),lD 4 tB (wt.set 0 false)]))∧(decide ((↑0:Int)>0)=false→sK n59 3∧G 3 (stOf 143 [2,5,15,99,100,101] [p0,D.ptr 1 0 0,D.ptr 2 0 0,sL tS S,vi S.length,vi 0] [Slot.live yy4,lB 176 [sL tI.sl W,sL tS S,D.own 3 0 n (some n),o0 4 ms.length],lB 151 [D.own 3 0 n (some n),o0 4 ms.length,vb true],lD 22 tU (Mi m),Slot.live (Row.nest yy2 ms none)]))) hmG (fun G R=>by kernel_rfl) ?_
   try dsimp only
   simp (disch:=omega) only[oo,oop,oq,reduceCtorEq];repeat' first|with_reducible apply And.intro|intro _|rfl|omega|assumption|trivial|(exfalso;simp_all;done)
  |cons s td=>
   obtain⟨s0,s1,L⟩:=Inv.look B F I;have c1:=d99 W S m ms s s0 s1 I.may L;rw[hm] at c1;have qs:=I.q;have hwl:=qs.len;obtain⟨C,hC⟩:∃C,(slotAt S s).2.2=C:=⟨_,rfl⟩;obtain⟨l,hl⟩:∃l,ms.getD s.toNat []=l:=⟨_,rfl⟩;obtain⟨I2,M2⟩:=Inv.step B I hC hl;have hc:=F.cells (slotAt S s) (by unfold slotAt;exact getD_in (by omega));rw[hC] at hc;rw[hC,hl] at c1;have hlost:∀c∈lostC W m C l,0≤c∧c<n:=fun c h=>by
    rw[←hn];exact hc.2 c (lost_sub _ _ _ _ c h)
   have hll:(lostC W m C l).length≤300:=Nat.le_trans (lost_len _ _ _ _) hc.1;have hlm:(lookC W m C l).length=m.length:=by rw[I2.len,I.len]
   have hx:=ih _ _ _ _ (by simp only[List.length_cons] at hq;omega) I2;rw[List.length_set] at hx;have hb:=e59b W S A Z n N (lookC W m C l) (ms.set s.toNat (keepI W m C l)) (lostC W m C l) (by omega) hll hA hZ hlost (by rw[hN];exact B.inA) (by rw[hN];exact B.inD) _ _ mE sE rE (by rw[List.length_set];exact hx) (lostC W m C l).length 0 (wt.set s.toNat false) td (by omega) (by omega) (by rw[hN];exact pop_queue qs) rfl;rw[List.length_set] at hb;refine gets_vc (flag [2000115] spNa) (fun k=> [[2,5,6,7,8,9,10,45,46],[2,5,6,7,8,9,10],[2,5,6,7,8,9,10,66,67,68],[2,5,15,99,100,101],[2,5,15,99,100,101,121,122,123]].getD k []) (fun k=>if k<3 then [⟨1000000008,3,.int .i64⟩] else if k=99 then [⟨1000000002,22,.int .u64⟩,⟨4010002,27,WT⟩] else []) 400 (.fork (.hd 2) (.hd 3)) (V:=fun G R=>let yy1:=((s::td).getD 0 tI.dflt);let yy3:=(Int.toNat yy1);let yy4:=(↑(s::td).length:Int);let yy5:=(NK.mk 27 tI.sl 0 3 tI);let yy6:=(slotAt S yy1);let yy7:=(Row.box 176 [sL tI.sl W,sL tS S,D.own 6 0 n (some n),o0 7 ms.length]);let yy8:=(Row.box 151 [nD,nD,vb false]);(decide (yy4>(0:Int))=true→(0:Int)≤0∧(0:Int)<yy4∧0< (s::td).length∧(0:Int)≤1∧(1:Int)≤yy4∧yy4≤(↑((s::td).length-0):Int)∧(0:Int)≤(s::td).getD 0 tI.dflt∧(s::td).getD 0 tI.dflt< (↑N:Int)∧0+Int.toNat yy1<wt.length∧cP 145 [Row.box 176 [sL tI.sl W,sL tS S,D.own 1 0 n (some n),o0 2 ms.length],Row.data 22 tU (Mi (Nt (Mi m))),Row.nest yy5 ms none] [p0,vi yy1] (o0 3 (lostC W (Nt (Mi m)) yy6.snd.snd (ms.getD yy3 [])).length) [some (Row.box 176 [sL tI.sl W,sL tS S,D.own 1 0 n (some n),o0 2 ms.length]),some (Row.data 22 tU (Mi (lookC W (Nt (Mi m)) yy6.snd.snd (ms.getD yy3 [])))),some (Row.nest yy5 (ms.set yy3 (keepI W (Nt (Mi m)) yy6.snd.snd (ms.getD yy3 []))) none)] [Row.data 3 tI (lostC W (Nt (Mi m)) yy6.snd.snd (ms.getD yy3 []))]∧1=1∧0=0∧0=0∧vE yy1 yy1∧(Mi (lookC W (Nt (Mi m)) yy6.snd.snd (ms.getD yy3 []))).length=(Mi (Nt (Mi m))).length∧(ms.set yy3 (keepI W (Nt (Mi m)) yy6.snd.snd (ms.getD yy3 []))).length=ms.length∧some yy7=some yy7∧some (Row.data 22 tU (Mi m))=some (Row.data 22 tU (Mi (Nt (Mi m))))∧some (Row.nest yy5 ms none)=some (Row.nest yy5 ms none)∧sK n59 2∧G 2 (stOf 143 [2,5,6,7,8,9,10,66,67,68] [p0,D.ptr 1 0 0,o0 2 A.length,o0 3 Z.length,D.ptr 4 0 0,D.ptr 5 0 0,D.fn 144 [D.ptr 5 0 0,D.ptr 4 0 0],o0 6 (lostC W (Nt (Mi m)) yy6.snd.snd (ms.getD yy3 [])).length,vi (↑(lostC W (Nt (Mi m)) yy6.snd.snd (ms.getD yy3 [])).length:Int),vi 0] [Slot.live yy8,lB 176 [sL tI.sl W,sL tS S,D.own 7 0 n (some n),o0 8 ms.length],lD 61 tQ A,lD 61 tQ Z,lB 27 [o0 9 (yy4.toNat-1)],lB 44 [D.own 10 0 N (some N)],lD 3 tI (lostC W (Nt (Mi m)) yy6.snd.snd (ms.getD yy3 [])),lD 22 tU (Mi (lookC W (Nt (Mi m)) yy6.snd.snd (ms.getD yy3 []))),Slot.live (Row.nest yy5 (ms.set yy3 (keepI W (Nt (Mi m)) yy6.snd.snd (ms.getD yy3 []))) none),lD 3 tI (List.take (yy4.toNat-1) (List.drop 1 (s::td))),lD 4 tB (wt.set (0+Int.toNat yy1) false)]))∧(decide (yy4>(0:Int))=false→sK n59 3∧G 3 (stOf 143 [2,5,15,99,100,101] [p0,D.ptr 1 0 0,D.ptr 2 0 0,sL tS S,vi S.length,vi 0] [Slot.live yy8,lB 176 [sL tI.sl W,sL tS S,D.own 3 0 n (some n),o0 4 ms.length],lB 151 [D.own 3 0 n (some n),o0 4 ms.length,vb true],lD 22 tU (Mi m),Slot.live (Row.nest yy5 ms none)]))) hmG (fun G R=>by kernel_rfl) ?_
   try dsimp only
   simp only[Ty.dflt,Nat.zero_add,Nat.sub_zero,Nt_Mi,Mi_len,hlm,hC,hl,List.getD_cons_zero,List.length_cons,Int.toNat_natCast,Nat.add_sub_cancel,List.drop_succ_cons,List.drop_zero,List.take_length,List.length_set];simp (disch:=omega) only[oo,oop,oq,reduceCtorEq];repeat' first|with_reducible apply And.intro|intro _|rfl|omega|assumption|trivial|(exfalso;simp_all;done)
def vq38 (W:List (List Int)) (S:List Slt) (A:List (Int×Int)) (Z:List (Int×Int)) (n:Nat) (N:Nat) (m:List Nat) (ms:List (List Int)) (s:Int) (wt:List Bool) (td:List Int) (G:GT) (R:RT):Prop:=let yy1:=(Row.box 176 [sL tI.sl W,sL tS S,D.own 6 0 n (some n),o0 7 ms.length]);let yy2:=(Row.box 44 [D.own 9 0 N (some N)]);let yy3:=(Row.box 151 [nD,nD,vb false]);let yy4:=(putF wt td s);let yy5:=(Row.box 27 [o0 8 td.length]);(decide (s<S.length)=true→cP 144 [Row.box 44 [D.own 1 0 N (some N)],Row.data 4 tB wt,Row.box 27 [o0 3 td.length],Row.data 3 tI td] [vi s,p0,D.ptr 2 0 0] (D.tup []) [some (Row.box 44 [D.own 1 0 N (some N)]),some (Row.data 4 tB yy4.fst),some (Row.box 27 [o0 4 yy4.snd.length]),none] [Row.data 3 tI yy4.snd]∧vE s s∧5=5∧0=0∧0=0∧4=4∧0=0∧0=0∧yy4.fst.length=wt.length∧some yy2=some yy2∧some (Row.data 4 tB wt)=some (Row.data 4 tB wt)∧some yy5=some yy5∧some (Row.data 3 tI td)=some (Row.data 3 tI td)∧sK n59 0∧G 0 (stOf 143 [2,5,6,7,8,9,10,45,46] [p0,D.ptr 1 0 0,o0 2 A.length,o0 3 Z.length,D.ptr 4 0 0,D.ptr 5 0 0,D.fn 144 [D.ptr 5 0 0,D.ptr 4 0 0],vi S.length,vi (IntKind.i64.wrap (s+1))] [Slot.live yy3,Slot.live yy1,lD 61 tQ A,lD 61 tQ Z,lB 27 [o0 8 yy4.snd.length],Slot.live yy2,lD 22 tU (Mi m),Slot.live (Row.nest (NK.mk 27 tI.sl 0 3 tI) ms none),lD 3 tI (List.take yy4.snd.length (List.drop 0 yy4.snd)),lD 4 tB yy4.fst]))∧(decide (s<S.length)=false→sK n59 1∧G 1 (stOf 143 [2,5,6,7,8,9,10] [p0,D.ptr 1 0 0,o0 2 A.length,o0 3 Z.length,D.ptr 4 0 0,D.ptr 5 0 0,D.fn 144 [D.ptr 5 0 0,D.ptr 4 0 0]] [Slot.live yy3,Slot.live yy1,lD 61 tQ A,lD 61 tQ Z,Slot.live yy5,Slot.live yy2,lD 22 tU (Mi m),Slot.live (Row.nest (NK.mk 27 tI.sl 0 3 tI) ms none),lD 3 tI (List.take td.length (List.drop 0 td)),lD 4 tB wt]))
theorem e59p (W:List (List Int)) (S:List Slt) (A Z:List (Int×Int)) (n N:Nat) (m:List Nat) (ms:List (List Int)) (hS:S.length≤900) (hN:N=S.length) (mE:List Nat) (sE:List (List Int)) (rE:Bool) (hx:∀wt td,Queue wt td N→(∀j,j<N→wt.getD j false=true)→GetsK Tryd.prog Tryd.f123.results.toList [none,none] (KK n59) 0 (.tup [.agg [o0 0 n,o0 1 sE.length,vb rE],vi 0],[],[.data 22 (.int .u64) (Mi mE),.nest kW sE none]) 1 (stOf 143 [2,5,6,7,8,9,10] [.ptr 0 0 0,.ptr 1 0 0,o0 2 A.length,o0 3 Z.length,.ptr 4 0 0,.ptr 5 0 0,.fn 144 [.ptr 5 0 0,.ptr 4 0 0]] [lB 151 [.v (.slice none 0 0),.v (.slice none 0 0),vb false],lB 176 [slW W,slS S,.own 6 0 n (some n),o0 7 ms.length],lD 61 SeT A,lD 61 SeT Z,lB 27 [o0 8 td.length],lB 44 [.own 9 0 N (some N)],lD 22 (.int .u64) (Mi m),.live (.nest kW ms none),lD 3 (.int .i64) td,lD 4 .bool wt])) (z:Nat):∀(s:Int) (wt:List Bool) (td:List Int),0≤s→s+z=S.length→Queue wt td N→(∀j:Nat,j<s.toNat→wt.getD j false=true)→GetsK Tryd.prog Tryd.f123.results.toList [none,none] (KK n59) 0 (.tup [.agg [o0 0 n,o0 1 sE.length,vb rE],vi 0],[],[.data 22 (.int .u64) (Mi mE),.nest kW sE none]) 0 (stOf 143 [2,5,6,7,8,9,10,45,46] [.ptr 0 0 0,.ptr 1 0 0,o0 2 A.length,o0 3 Z.length,.ptr 4 0 0,.ptr 5 0 0,.fn 144 [.ptr 5 0 0,.ptr 4 0 0],vi S.length,vi s] [lB 151 [.v (.slice none 0 0),.v (.slice none 0 0),vb false],lB 176 [slW W,slS S,.own 6 0 n (some n),o0 7 ms.length],lD 61 SeT A,lD 61 SeT Z,lB 27 [o0 8 td.length],lB 44 [.own 9 0 N (some N)],lD 22 (.int .u64) (Mi m),.live (.nest kW ms none),lD 3 (.int .i64) td,lD 4 .bool wt]):=by
 induction z with
 |zero=>
  intro s wt td s0 hs q hw;have h1:=hx wt td q (fun j hj=>hw j (by omega));refine gets_vc (flag [2000115] spNa) (fun k=> [[2,5,6,7,8,9,10,45,46],[2,5,6,7,8,9,10],[2,5,6,7,8,9,10,66,67,68],[2,5,15,99,100,101],[2,5,15,99,100,101,121,122,123]].getD k []) (fun k=>if k<3 then [⟨1000000008,3,.int .i64⟩] else if k=99 then [⟨1000000002,22,.int .u64⟩,⟨4010002,27,WT⟩] else []) 400 (.fork (.hd 0) (.hd 1)) (V:=vq38 W S A Z n N m ms s wt td) hmG (fun G R=>by kernel_rfl) ?_;unfold vq38;try dsimp only
  simp only[List.drop_zero,List.take_length];simp (disch:=omega) only[oo,oop,oq,reduceCtorEq];repeat' first|with_reducible apply And.intro|intro _|rfl|omega|assumption|trivial|(exfalso;simp_all;done)
 |succ z ih=>
  intro s wt td s0 hs q hw;have hs1:IntKind.i64.wrap (s+1)=s+1:=wrG (by omega) (by omega);obtain⟨q1,g1,p1⟩:=put_queue q (s:=s) (by omega);have l0:=q.long;have c1:=d98 s N td.length wt td q.len rfl (by omega) (by omega);have n1:(putF wt td s).1.length=wt.length:=by rw[q1.len,q.len]
  have h1:=ih (s+1) _ _ (by omega) (by omega) q1 (fun j hj=>by
   by_cases e:j<s.toNat
   ·exact g1 j (hw j e)
   ·have:j=s.toNat:=by omega
    rw[this];exact p1 s0)
  refine gets_vc (flag [2000115] spNa) (fun k=> [[2,5,6,7,8,9,10,45,46],[2,5,6,7,8,9,10],[2,5,6,7,8,9,10,66,67,68],[2,5,15,99,100,101],[2,5,15,99,100,101,121,122,123]].getD k []) (fun k=>if k<3 then [⟨1000000008,3,.int .i64⟩] else if k=99 then [⟨1000000002,22,.int .u64⟩,⟨4010002,27,WT⟩] else []) 400 (.fork (.hd 0) (.hd 1)) (V:=vq38 W S A Z n N m ms s wt td) hmG (fun G R=>by kernel_rfl) ?_;unfold vq38;try dsimp only
  simp only[hs1,List.drop_zero,List.take_length];simp (disch:=omega) only[oo,oop,oq,reduceCtorEq];repeat' first|with_reducible apply And.intro|intro _|rfl|omega|assumption|trivial|(exfalso;simp_all;done)
theorem d59 (g:Gr) (W:List (List Int)) (M:List Nat) (hM:Smalls M):Con Tryd.prog 123 [] [.agg (gG g [slW W,slU M])] (narVal (narM ⟨g,W,M⟩) (narW ⟨g,W,M⟩) (narO ⟨g,W,M⟩) (checkP ⟨g,W,M⟩)) [] [.data 22 (.int .u64) (Mi (narM ⟨g,W,M⟩)),.nest kW (narW ⟨g,W,M⟩) none]:=by
 refine con_vc (how:=[none,none]) (c:=n59) (K:=(KK n59)) (flag [2000115] spNa) (fun k=> [[2,5,6,7,8,9,10,45,46],[2,5,6,7,8,9,10],[2,5,6,7,8,9,10,66,67,68],[2,5,15,99,100,101],[2,5,15,99,100,101,121,122,123]].getD k []) (fun k=>if k<3 then [⟨1000000008,3,.int .i64⟩] else if k=99 then [⟨1000000002,22,.int .u64⟩,⟨4010002,27,WT⟩] else []) 400 (.fork .stop (.hd 0)) (V:=fun G R=>let yy0:=(Pr.mk g W (Nt (Mi M)));let yy2:=(↑(slotsF yy0.g).length:Int);let yy3:=(mayF yy0.W (slotsF yy0.g));cP 89 [] [D.agg (gG yy0.g [sL tI.sl yy0.W,sL tU (Mi yy0.M)])] (vi (checkP yy0)) [] []∧gS g yy0.g (W=yy0.W∧Mi M=Mi yy0.M∧((checkP yy0 !=(0:Int))=true→R (D.tup [D.agg [o0 0 0,o0 1 0,vb false],vi (checkP yy0)],[],[Row.data 22 tU [],Row.nest (NK.mk 27 tI.sl 0 3 tI) [] none]))∧((checkP yy0 !=(0:Int))=false→cP 143 [] [D.agg (gG yy0.g [sL tI.sl yy0.W,sL tU (Mi yy0.M)])] (p0) [] [Row.box 176 [sL tI.sl yy0.W,sL tS (slotsF yy0.g),D.own 1 0 yy0.M.length (some yy0.M.length),o0 2 yy3.length],Row.data 22 tU (Mi (m0F yy0)),Row.nest (NK.mk 27 tI.sl 0 3 tI) yy3 none]∧gS g yy0.g (W=yy0.W∧Mi M=Mi yy0.M∧cP 40 [] [D.agg (gG g [])] (D.tup [o0 0 (seatsF g).fst.length,o0 1 (seatsF g).snd.length]) [] [Row.data 61 tQ (seatsF g).fst,Row.data 61 tQ (seatsF g).snd]∧gS g g ((0:Int)≤yy2∧yy2≤yy2∧yy2≤(9223372036854775807:Int)∧yy2.toNat*1≤281474976710656∧sK n59 0∧G 0 (stOf 143 [2,5,6,7,8,9,10,45,46] [p0,D.ptr 1 0 0,o0 2 (seatsF g).fst.length,o0 3 (seatsF g).snd.length,D.ptr 4 0 0,D.ptr 5 0 0,D.fn 144 [D.ptr 5 0 0,D.ptr 4 0 0],vi yy2,vi 0] [lB 151 [nD,nD,vb false],lB 176 [sL tI.sl yy0.W,sL tS (slotsF yy0.g),D.own 6 0 yy0.M.length (some yy0.M.length),o0 7 yy3.length],lD 61 tQ (seatsF g).fst,lD 61 tQ (seatsF g).snd,lB 27 [o0 8 0],lB 44 [D.own 9 0 yy2.toNat (some yy2.toNat)],lD 22 tU (Mi (m0F yy0)),Slot.live (Row.nest (NK.mk 27 tI.sl 0 3 tI) yy3 none),lD 3 tI [],lD 4 tB (List.replicate yy2.toNat false)])))))) hmG Tryd.func123 (by kernel_rfl) (by kernel_rfl) (fun G R=>by kernel_rfl) ?_
 try dsimp only
 try dsimp only
 have c0:=d62 g W M;unfold narVal;simp only[Nt_Mi,Mi_len,Int.toNat_natCast];by_cases h:checkP ⟨g,W,M⟩=0
 ·have F:=fine_of h hM;have hsz:=F.size;obtain⟨B,hA,hZ⟩:=board_of h hM;have c1:=d97 g W M F;have c2:=d77 g;have hl:=narM_len ⟨g,W,M⟩ h;have e1:narM ⟨g,W,M⟩=gfpF W (slotsF g) (m0F ⟨g,W,M⟩):=if_pos h;have e2:narW ⟨g,W,M⟩=wordsF W (slotsF g) (narM ⟨g,W,M⟩):=if_pos h;have e3:narO ⟨g,W,M⟩=okF (slotsF g) (narM ⟨g,W,M⟩) (narW ⟨g,W,M⟩):=if_pos h;have hml:(m0F ⟨g,W,M⟩).length=M.length:=by
   unfold m0F;rw[seatSlots_len];simp
  have hms:Smalls (m0F ⟨g,W,M⟩):=seatSlots_small hM _ (rep_small _);have F0:Fine W (slotsF g) (m0F ⟨g,W,M⟩):=⟨F.words,F.long,F.slots,fun s hs=>by rw[hml];exact F.cells s hs,by omega,hms⟩;have hS:(slotsF g).length≤900:=slots_900 (checkP_zero h).1;have hq:Queue (List.replicate (slotsF g).length false) [] (slotsF g).length:=queue_new _;have hx:=e59p W (slotsF g) (seatsF g).1 (seatsF g).2 M.length (slotsF g).length (m0F ⟨g,W,M⟩) (mayF W (slotsF g)) hS rfl (narM ⟨g,W,M⟩) (narW ⟨g,W,M⟩) (narO ⟨g,W,M⟩)
   (fun wt td q hw=>e59a W (slotsF g) (seatsF g).1 (seatsF g).2 M.length (m0F ⟨g,W,M⟩) hml F0 hS (by rw[hml];exact B) hA hZ (slotsF g).length rfl _ _ _ e1 e2 e3 _ _ _ wt td (Nat.lt_succ_self _) (inv_start q hw))
   (slotsF g).length 0 (List.replicate (slotsF g).length false) [] (by omega) (by omega) hq (fun j hj=>by simp at hj)
  rw[h] at c0⊢;rw[hl];simp only[show((0:Int) !=0)=false from rfl];simp (disch:=omega) only[oo,oop,oq,reduceCtorEq];repeat' first|with_reducible apply And.intro|intro _|rfl|omega|assumption|trivial|exact c1|exact c2|exact hx
 ·have e1:narM ⟨g,W,M⟩=[]:=if_neg h;have e2:narW ⟨g,W,M⟩=[]:=if_neg h;have e3:narO ⟨g,W,M⟩=false:=if_neg h;rw[e1,e2,e3];have hb:(checkP ⟨g,W,M⟩ !=0)=true:=by rw[bne_iff_ne];exact h
  simp only[hb];simp (disch:=omega) only[oo,oop,oq,reduceCtorEq];repeat' first|with_reducible apply And.intro|intro _|rfl|omega|assumption|trivial|(exfalso;simp_all;done)
def spNb:Sp:=fun f args rd=>match f,args with
 |53,[.agg [.v (.int _ h),.v (.int _ w),b,r,l,ws,ms]]=>withP rd h w b r l ws ms fun p ls=>some {f:=53,args:=[p.d],val:= .agg [.v (.int .i64 p.g.h),.v (.int .i64 p.g.w),.own 0 0 p.g.B.length none,.own 1 0 p.g.R.length none,.own 2 0 p.g.L.length none,.own 3 0 p.W.length none,.own 4 0 p.M.length none],allocs:=[.data 4 .bool p.g.B,.data 4 .bool p.g.R,.data 4 .bool p.g.L,.data 27 WT p.W,.data 22 (.int .u64) (Mi p.M)],lent:=ls}
 |57,[.agg [.v (.int _ h),.v (.int _ w),b,r,l,ws,ms],.agg [.v (.int _ h'),.v (.int _ w'),b',r',l',ws',ms']]=>withP rd h w b r l ws ms fun p ls=>withP rd h' w' b' r' l' ws' ms' fun q ls'=>some {f:=57,args:=[p.d,q.d],val:= .v (.bool (decide (p.g=q.g∧p.M=q.M∧p.W=q.W))),lent:=ls++ls'}
 |f,args=>spNa f args rd
structure Pr.fits (p:Pr):Prop where
 g:p.g.fits
 W:p.W.length≤5864062014805
 w:∀w∈p.W,w.length≤17592186044416
 M:p.M.length≤17592186044416
 small:Smalls p.M
theorem roomB {n:Nat} (h:n≤140737488355328):roomy Tryd.prog 4 n:=by
 unfold roomy;rw[show Tryd.prog.bytesOf 4=1 by kernel_rfl];omega
theorem roomI {n:Nat} (h:n≤17592186044416):roomy Tryd.prog 3 n:=by
 unfold roomy;rw[show Tryd.prog.bytesOf 3=8 by kernel_rfl];omega
theorem roomW {n:Nat} (h:n≤5864062014805):roomy Tryd.prog 27 n:=by
 unfold roomy;rw[bytes46];omega
theorem e58 (g:Gr) (W:List (List Int)) (M:List Nat) (hW:W.length≤5864062014805) (hw:∀w∈W,w.length≤17592186044416) (z:Nat):∀(i:Int) (V:List (List Int)),0≤i→i+z=W.length→V=W.take i.toNat→GetsK Tryd.prog Tryd.f53.results.toList [none] (KK n58) 0 (.agg [vi g.h,vi g.w,o0 0 g.B.length,o0 1 g.R.length,o0 2 g.L.length,o0 3 W.length,o0 4 M.length],[],[.data 4 .bool g.B,.data 4 .bool g.R,.data 4 .bool g.L,.data 27 WT W,.data 22 (.int .u64) (Mi M)]) 0 (stOf 52 [1,2,3,4] [.ptr 0 0 0,.ptr 1 0 0,.ptr 2 0 0,vi i] [lB 73 (gG g [slW W,slU M]),lB 73 [vi 0,vi 0,.v (.slice none 0 0),.v (.slice none 0 0),.v (.slice none 0 0),.v (.slice none 0 0),.v (.slice none 0 0)],lB 73 [vi g.h,vi g.w,o0 3 g.B.length,o0 4 g.R.length,o0 5 g.L.length,o0 6 V.length,o0 7 M.length],lD 4 .bool g.B,lD 4 .bool g.R,lD 4 .bool g.L,lD 27 WT V,lD 22 (.int .u64) (Mi M)]):=by
 induction z with
 |zero=>
  intro i V i0 hi hV;rw[List.take_of_length_le (by omega)] at hV;rw[hV];refine gets_vc spNb (fun _=> [1,2,3,4]) (fun k=>if k=0 then [⟨50003,27,WT⟩] else []) 400 (.fork (.hd 0) .stop) (V:=fun G R=>let yy1:=(Value.slice none 0 0);(decide (i<W.length)=true→0≤i∧i<W.length∧rM 3 (0+List.length (W.getD i.toNat tI.sl.dflt))∧rM 27 (W.length+1)∧sK n58 0∧G 0 (stOf 52 [1,2,3,4] [p0,D.ptr 1 0 0,D.ptr 2 0 0,vi (IntKind.i64.wrap (i+1))] [lB 73 (gG g [sL tI.sl W,sL tU (Mi M)]),lB 73 [vi 0,vi 0,D.v yy1,D.v yy1,D.v yy1,D.v yy1,D.v yy1],lB 73 [vi g.h,vi g.w,o0 3 g.B.length,o0 4 g.R.length,o0 5 g.L.length,o0 6 (W.length+1),o0 7 M.length],lD 4 tB g.B,lD 4 tB g.R,lD 4 tB g.L,lD 27 tI.sl (List.take W.length (List.drop 0 W)++List.take 1 (List.drop 0 [List.take (0+List.length (W.getD i.toNat tI.sl.dflt)) (List.drop 0 (List.take 0 (List.drop 0 [])++W.getD i.toNat tI.sl.dflt))])),lD 22 tU (Mi M)]))∧(decide (i<W.length)=false→R (D.agg [vi g.h,vi g.w,o0 0 g.B.length,o0 1 g.R.length,o0 2 g.L.length,o0 3 W.length,o0 4 M.length],[],[Row.data 4 tB g.B,Row.data 4 tB g.R,Row.data 4 tB g.L,Row.data 27 tI.sl W,Row.data 22 tU (Mi M)]))) hmG (fun G R=>by kernel_rfl) ?_
  try dsimp only
  simp only[zz];simp (disch:=omega) only[oo,oop,oq,reduceCtorEq];repeat' first|with_reducible apply And.intro|intro _|rfl|omega|assumption|trivial|exact roomW (by omega)|exact roomI (by omega)|exact roomU (by omega)|exact roomB (by omega)|(exfalso;simp_all;done)
 |succ z ih=>
  intro i V i0 hi hV;have hk1:IntKind.i64.wrap (i+1)=i+1:=wrG (by omega) (by omega);have ht:=take_succ_at ([]:List Int) W i0 (by omega);obtain⟨w,hww⟩:∃w,W.getD i.toNat []=w:=⟨_,rfl⟩;have hwl:w.length≤17592186044416:=by rw[←hww];exact hw _ (getD_in (by omega))
  rw[hww] at ht;have hVl:V.length=i.toNat:=by rw[hV,List.length_take];omega
  have hx:=ih (i+1) (V++[w]) (by omega) (by omega) (by rw[ht,hV]);rw[List.length_append,List.length_cons,List.length_nil] at hx;refine gets_vc spNb (fun _=> [1,2,3,4]) (fun k=>if k=0 then [⟨50003,27,WT⟩] else []) 400 (.fork (.hd 0) .stop) (V:=fun G R=>let yy1:=(Value.slice none 0 0);(decide (i<W.length)=true→0≤i∧i<W.length∧rM 3 (0+List.length (W.getD i.toNat tI.sl.dflt))∧rM 27 (V.length+1)∧sK n58 0∧G 0 (stOf 52 [1,2,3,4] [p0,D.ptr 1 0 0,D.ptr 2 0 0,vi (IntKind.i64.wrap (i+1))] [lB 73 (gG g [sL tI.sl W,sL tU (Mi M)]),lB 73 [vi 0,vi 0,D.v yy1,D.v yy1,D.v yy1,D.v yy1,D.v yy1],lB 73 [vi g.h,vi g.w,o0 3 g.B.length,o0 4 g.R.length,o0 5 g.L.length,o0 6 (V.length+1),o0 7 M.length],lD 4 tB g.B,lD 4 tB g.R,lD 4 tB g.L,lD 27 tI.sl (List.take V.length (List.drop 0 V)++List.take 1 (List.drop 0 [List.take (0+List.length (W.getD i.toNat tI.sl.dflt)) (List.drop 0 (List.take 0 (List.drop 0 [])++W.getD i.toNat tI.sl.dflt))])),lD 22 tU (Mi M)]))∧(decide (i<W.length)=false→R (D.agg [vi g.h,vi g.w,o0 0 g.B.length,o0 1 g.R.length,o0 2 g.L.length,o0 3 V.length,o0 4 M.length],[],[Row.data 4 tB g.B,Row.data 4 tB g.R,Row.data 4 tB g.L,Row.data 27 tI.sl V,Row.data 22 tU (Mi M)]))) hmG (fun G R=>by kernel_rfl) ?_
  try dsimp only
  simp only[Ty.dflt,hk1,hww,zz];simp (disch:=omega) only[oo,oop,oq,reduceCtorEq];repeat' first|with_reducible apply And.intro|intro _|rfl|omega|assumption|trivial|exact roomW (by omega)|exact roomI (by omega)|exact roomU (by omega)|exact roomB (by omega)|(exfalso;simp_all;done)
theorem d58 (g:Gr) (W:List (List Int)) (M:List Nat) (hg:g.fits) (hW:W.length≤5864062014805) (hw:∀w∈W,w.length≤17592186044416) (hM:M.length≤17592186044416):Con Tryd.prog 53 [] [.agg (gG g [slW W,slU M])] (.agg [vi g.h,vi g.w,o0 0 g.B.length,o0 1 g.R.length,o0 2 g.L.length,o0 3 W.length,o0 4 M.length]) [] [.data 4 .bool g.B,.data 4 .bool g.R,.data 4 .bool g.L,.data 27 WT W,.data 22 (.int .u64) (Mi M)]:=by
 refine con_vc (how:=[none]) (c:=n58) (K:=(KK n58)) spNb (fun _=> [1,2,3,4]) (fun k=>if k=0 then [⟨50003,27,WT⟩] else []) 400 (.hd 0) (V:=fun G R=>let yy0:=(Value.slice none 0 0);rM 4 (0+g.B.length)∧rM 4 (0+g.R.length)∧rM 4 (0+g.L.length)∧rM 22 (0+(Mi M).length)∧sK n58 0∧G 0 (stOf 52 [1,2,3,4] [p0,D.ptr 1 0 0,D.ptr 2 0 0,vi 0] [lB 73 (gG g [sL tI.sl W,sL tU (Mi M)]),lB 73 [vi 0,vi 0,D.v yy0,D.v yy0,D.v yy0,D.v yy0,D.v yy0],lB 73 [vi g.h,vi g.w,o0 3 (0+g.B.length),o0 4 (0+g.R.length),o0 5 (0+g.L.length),o0 6 0,o0 7 (0+(Mi M).length)],lD 4 tB (List.take 0 (List.drop 0 [])++g.B),lD 4 tB (List.take 0 (List.drop 0 [])++g.R),lD 4 tB (List.take 0 (List.drop 0 [])++g.L),lD 27 tI.sl [],lD 22 tU (List.take 0 (List.drop 0 [])++Mi M)])) hmG Tryd.func53 (by kernel_rfl) (by kernel_rfl) (fun G R=>by kernel_rfl) ?_
 try dsimp only
 try dsimp only
 obtain⟨f1,f2,f3⟩:=hg;have hx:=e58 g W M hW hw W.length 0 [] (by omega) (by omega) rfl;simp only[zz];simp (disch:=omega) only[oo,oop,oq,reduceCtorEq];repeat' first|with_reducible apply And.intro|intro _|rfl|omega|assumption|trivial|exact roomW (by omega)|exact roomI (by omega)|exact roomU (by omega)|exact roomB (by omega)|(exfalso;simp_all;done)
theorem seatC_get (M:List Nat):∀(cs:List Int) (m:List Nat) (j:Nat),j<m.length→(seatCells M cs m).getD j 0=if cs.any (fun c=>c.toNat==j) then M.getD j 0 else m.getD j 0
 | [],m,j,_=>by simp[seatCells]
 |c::cs,m,j,hj=>by
  simp only[seatCells,List.any_cons];rw[seatC_get M cs _ j (by simpa using hj)];by_cases h:c.toNat=j
  ·have hs:(m.set c.toNat (M.getD c.toNat 0)).getD j 0=M.getD j 0:=by rw[getD_set_nat,if_pos ⟨h,by omega⟩,h]
   simp only[hs,beq_iff_eq.2 h,Bool.true_or,if_true,ite_self]
  ·have hs:(m.set c.toNat (M.getD c.toNat 0)).getD j 0=m.getD j 0:=by rw[getD_set_nat,if_neg (fun e=>h e.1)]
   simp only[hs,beq_eq_false_iff_ne.2 h,Bool.false_or]
theorem seatS_get (M:List Nat):∀(ss:List Slt) (m:List Nat) (j:Nat),j<m.length→(seatSlots M ss m).getD j 0=if ss.any (fun s=>s.2.2.any (fun c=>c.toNat==j)) then M.getD j 0 else m.getD j 0
 | [],m,j,_=>by simp[seatSlots]
 |s::ss,m,j,hj=>by
  simp only[seatSlots,List.any_cons];rw[seatS_get M ss _ j (by rw[seatCells_len];exact hj),seatC_get M _ m j hj];rcases Bool.eq_false_or_eq_true (s.2.2.any (fun c=>c.toNat==j)) with h1|h1<;>rcases Bool.eq_false_or_eq_true (ss.any (fun s=>s.2.2.any (fun c=>c.toNat==j))) with h2|h2<;>simp only[h1,h2,Bool.or_true,Bool.true_or,Bool.or_false,Bool.false_eq_true,if_true,if_false]
def seatedB (S:List Slt) (j:Nat):Bool:=S.any fun s=>s.2.2.any fun c=>c.toNat==j
theorem m0_get {p:Pr} {j:Nat} (hj:j<p.M.length):(m0F p).getD j 0=if seatedB (slotsF p.g) j then p.M.getD j 0 else 0:=by
 unfold m0F seatedB;rw[seatS_get _ _ _ _ (by simpa using hj)];have e:(List.replicate p.M.length 0).getD j 0=0:=by
  rw[gE,List.getElem?_replicate];split<;>rfl
 rw[e]
theorem m0_len (p:Pr):(m0F p).length=p.M.length:=by
 unfold m0F;rw[seatSlots_len];simp
theorem again_check {p:Pr} {m:List Nat} (hl:m.length=p.M.length):checkP ⟨p.g,p.W,m⟩=checkP p:=by
 unfold checkP;simp only[hl]
end Go.Proofs.YtnakmganodkliaaDoorAm
