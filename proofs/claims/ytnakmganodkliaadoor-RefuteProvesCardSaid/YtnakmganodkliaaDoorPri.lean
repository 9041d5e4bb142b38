/- What refute.Prove may tell, for every problem (claim RefuteProves): the logic, the contracts and the plain laws (part 9) -/
import Derived.Test.YtnakmganodkliaaDoorPrh
set_option linter.unusedVariables false
set_option linter.unusedSimpArgs false
namespace Go.Proofs.YtnakmganodkliaaDoorAm
open Go
theorem narM_eq {p:Pr} (h:checkP p=0):narM p=gfpF p.W (slotsF p.g) (m0F p):=if_pos h
theorem narW_eq {p:Pr} (h:checkP p=0):narW p=wordsF p.W (slotsF p.g) (narM p):=if_pos h
theorem narO_eq {p:Pr} (h:checkP p=0):narO p=okF (slotsF p.g) (narM p) (narW p):=if_pos h
theorem narW_len {p:Pr} (h:checkP p=0):(narW p).length=(slotsF p.g).length:=by rw[narW_eq h];simp[wordsF]
theorem narW_at {p:Pr} (h:checkP p=0) {j:Nat} (hj:j< (slotsF p.g).length):(narW p).getD j []=idxF (fitL (narM p) (sAtN (slotsF p.g) j).2.2) 0 p.W:=by
 rw[narW_eq h];unfold wordsF;simp[gE,hj,sAtN]
theorem nar_stable {p:Pr} (h:checkP p=0):Stable p.W (slotsF p.g) (narM p):=by rw[narM_eq h];exact gfp_stable _ _ _
theorem nar_leq {p:Pr} (h:checkP p=0):Leq (narM p) (m0F p):=by rw[narM_eq h];exact gfp_leq _ _ _
theorem nar_small {p:Pr} (h:checkP p=0) (hM:Smalls p.M):Smalls (narM p):=leq_small (nar_leq h) (by
 unfold m0F;exact seatSlots_small hM _ (rep_small _))
theorem m0_leq {p:Pr}:Leq (m0F p) p.M:=by
 intro c i hi;have hc:c<p.M.length:=by have:=bit_lt hi;rwa [m0_len] at this
 unfold bitAt at hi⊢;rw[m0_get hc] at hi;split at hi
 ·exact hi
 ·simp at hi
theorem nar_given {p:Pr} (h:checkP p=0):Leq (narM p) p.M:=(nar_leq h).trans m0_leq
theorem m0_mono {p:Pr} {M':List Nat} (hl:M'.length=p.M.length) (h:Leq M' p.M):Leq (m0F ⟨p.g,p.W,M'⟩) (m0F p):=by
 intro c i hi;have hc:c<p.M.length:=by
  have:=bit_lt hi;rw[m0_len] at this;simpa only[hl] using this
 unfold bitAt at hi⊢;rw[m0_get (p:=⟨p.g,p.W,M'⟩) (by simpa only[hl] using hc)] at hi;rw[m0_get hc];simp only at hi;split at hi
 ·rename_i hs;rw[if_pos hs];exact h c i hi
 ·simp at hi
theorem gfp_mono {W:List (List Int)} {S:List Slt} {a b:List Nat} (h:Leq a b):Leq (gfpF W S a) (gfpF W S b):=gfp_most W S b (gfp_stable W S a) ((gfp_leq W S a).trans h)
theorem nar_mono {p:Pr} (h:checkP p=0) {M':List Nat} (hl:M'.length=p.M.length) (hM:Leq M' p.M):Leq (narM ⟨p.g,p.W,M'⟩) (narM p):=by
 have hc:checkP ⟨p.g,p.W,M'⟩=0:=by rw[again_check hl];exact h
 rw[narM_eq hc,narM_eq h];exact gfp_mono (m0_mono hl hM)
theorem idx_leq {W:List (List Int)} {a b:List Nat} (h:Leq a b) (C:List Int):(idxF (fitL a C) 0 W).Sublist (idxF (fitL b C) 0 W):=by
 have e:keepI W a C (idxF (fitL b C) 0 W)=idxF (fitL a C) 0 W:=keep_idx fun w hw=>fit_mono h hw;rw[←e];unfold keepI;exact List.filter_sublist
theorem ok_mono {W:List (List Int)} {S:List Slt} {a b:List Nat} (h:Leq a b) (hk:okF S a (wordsF W S a)=true):okF S b (wordsF W S b)=true:=by
 unfold okF wordsF at hk⊢;rw[Bool.and_eq_true,List.all_eq_true,List.all_eq_true] at hk⊢;refine⟨fun w hw=> ?_,fun s hs=> ?_⟩
 ·rw[List.mem_map] at hw;obtain⟨s,hs,e⟩:=hw;have h1:=hk.1 _ (List.mem_map_of_mem hs);have h2:=(idx_leq (W:=W) h s.2.2).length_le;rw[decide_eq_true_eq] at h1⊢;rw[←e];omega
 ·have h1:=hk.2 s hs;rw[List.all_eq_true] at h1⊢;intro c hc;have h3:=h1 c hc;rw[bne_iff_ne] at h3⊢;intro e;apply h3;have:a.getD c.toNat 0≤b.getD c.toNat 0:=sub_le fun i hi=>h _ i hi;omega
theorem narO_mono {p:Pr} (h:checkP p=0) {M':List Nat} (hl:M'.length=p.M.length) (hM:Leq M' p.M) (hk:narO ⟨p.g,p.W,M'⟩=true):narO p=true:=by
 have hc:checkP ⟨p.g,p.W,M'⟩=0:=by rw[again_check hl];exact h
 rw[narO_eq hc,narW_eq hc] at hk;rw[narO_eq h,narW_eq h];exact ok_mono (nar_mono h hl hM) hk
theorem idx_some {f:List Int→Bool} {W:List (List Int)}:(0< (idxF f 0 W).length)↔∃w∈W,f w=true:=by
 have e:(idxF f 0 W).length=(W.filter f).length:=by rw[←idx_map,List.length_map]
 rw[e,List.length_pos_iff_exists_mem];simp only[List.mem_filter]
def letM (ls:List Int):List Nat:=ls.map bitN
theorem letM_bit {ls:List Int} {c i:Nat} (h:bitAt (letM ls) c i):ls.getD c (-1)=(i:Int)∧i<64∧c<ls.length:=by
 have hc:c<ls.length:=by have:=bit_lt h;simpa [letM] using this
 unfold bitAt letM at h;have e:(ls.map bitN).getD c 0=bitN ls[c]:=by rw[gE,List.getElem?_map,gQ hc];rfl
 have e2:ls.getD c (-1)=ls[c]:=by rw[gE,gQ hc];rfl
 rw[e] at h;rw[e2];unfold bitN at h;split at h
 ·simp at h
 ·rename_i hb;rw[Nat.testBit_two_pow,decide_eq_true_eq] at h;omega
theorem letM_has {ls:List Int} {c:Nat} {x:Int} (h:ls.getD c (-1)=x) (h0:0≤x) (h1:x<64):bitAt (letM ls) c x.toNat:=by
 have hc:c<ls.length:=by
  apply Nat.lt_of_not_le;intro hle;rw[gE,List.getElem?_eq_none hle] at h;simp at h;omega
 have e2:ls.getD c (-1)=ls[c]:=by rw[gE,gQ hc];rfl
 rw[e2] at h;unfold bitAt letM;have e:(ls.map bitN).getD c 0=bitN ls[c]:=by rw[gE,List.getElem?_map,gQ hc];rfl
 rw[e,h];unfold bitN;rw[if_neg (by omega),Nat.testBit_two_pow,decide_eq_true_eq]
structure Picked (p:Pr) (pick:List Int) (n:Nat) (ls:List Int):Prop where
 len:ls.length=p.M.length
 low:∀c,0≤ls.getD c (-1)→hasN (p.M.getD c 0) (ls.getD c (-1))=true∧seatedB (slotsF p.g) c=true
 word:∀s,s<n→0≤pick.getD s 0∧pick.getD s 0<p.W.length∧(wordAt p.W (pick.getD s 0)).length=(sAtN (slotsF p.g) s).2.2.length
 here:∀s,s<n→∀j x,(sAtN (slotsF p.g) s).2.2[j]? =some x→ls.getD x.toNat (-1)=(wordAt p.W (pick.getD s 0)).getD j 0∧0≤ls.getD x.toNat (-1)
theorem has_lt {m:Nat} {x:Int} (h:hasN m x=true):0≤x∧x<64:=by
 unfold hasN at h;simp only[Bool.and_eq_true,decide_eq_true_eq] at h;exact⟨h.1,h.2.1⟩
theorem Picked.fit {p:Pr} {pick:List Int} {n:Nat} {ls:List Int} (q:Picked p pick n ls) {s:Nat} (hs:s<n):fitL (letM ls) (sAtN (slotsF p.g) s).2.2 (wordAt p.W (pick.getD s 0))=true:=by
 rw[fit_iff];refine⟨(q.word s hs).2.2,fun j x hx=> ?_⟩;obtain⟨e,h0⟩:=q.here s hs j x hx;have h1:=has_lt (q.low _ h0).1;rw[has_bit,←e];exact⟨h1.1,h1.2,letM_has rfl h1.1 h1.2⟩
theorem word_in {W:List (List Int)} {i:Int} (h0:0≤i) (h1:i<W.length):wordAt W i∈W:=getD_in (by omega)
theorem Picked.stable {p:Pr} {pick:List Int} {n:Nat} {ls:List Int} (q:Picked p pick n ls) (hn:n=(slotsF p.g).length):Stable p.W (slotsF p.g) (letM ls):=by
 intro t ht j x hx i hi;obtain⟨s,hs,e⟩:=List.getElem_of_mem ht;have et:sAtN (slotsF p.g) s=t:=by
  unfold sAtN;rw[gE,gQ hs];exact e
 rw[←et] at hx⊢;have hs':s<n:=by omega
 obtain⟨e1,h0⟩:=q.here s hs' j x hx;obtain⟨e2,hi64,_⟩:=letM_bit hi;have hw:=q.word s hs';exact(there_bits _ _ _ _).2 ⟨hi64,_,word_in hw.1 hw.2.1,q.fit hs',by rw[←e1,e2]⟩
theorem Picked.below {p:Pr} {pick:List Int} {n:Nat} {ls:List Int} (q:Picked p pick n ls):Leq (letM ls) (m0F p):=by
 intro c i hi;obtain⟨e,hi64,hc⟩:=letM_bit hi;have h1:=q.low c (by omega);have hcM:c<p.M.length:=by have:=q.len;omega
 unfold bitAt;rw[m0_get hcM,if_pos h1.2];have h2:=(has_bit.1 h1.1).2.2;rw[e] at h2;exact h2
theorem Picked.leq {p:Pr} {pick:List Int} {n:Nat} {ls:List Int} (hc:checkP p=0) (q:Picked p pick n ls) (hn:n=(slotsF p.g).length):Leq (letM ls) (narM p):=by
 rw[narM_eq hc];exact gfp_most _ _ _ (q.stable hn) q.below
theorem idx_mem {f:List Int→Bool}:∀{V:List (List Int)} {i k:Int},0≤k→k<V.length→f (V.getD k.toNat [])=true→i+k∈idxF f i V
 | [],i,k,h0,h1,_=>by simp at h1;omega
 |v::V,i,k,h0,h1,hf=>by
  simp only[idxF];have hl:((v::V).length:Int)=V.length+1:=by simp
  by_cases e:k=0
  ·subst e;simp at hf;rw[if_pos hf];simp
  ·have ek:k.toNat=(k-1).toNat+1:=by omega
   rw[ek,List.getD_cons_succ] at hf;have:=idx_mem (i:=i+1) (k:=k-1) (by omega) (by omega) hf;rw[show i+1+(k-1)=i+k by omega] at this;split
   ·exact List.mem_cons_of_mem _ this
   ·exact this
theorem Picked.found {p:Pr} {pick:List Int} {n:Nat} {ls:List Int} (hc:checkP p=0) (q:Picked p pick n ls) (hn:n=(slotsF p.g).length) {s:Nat} (hs:s<n):pick.getD s 0∈(narW p).getD s []:=by
 rw[narW_at hc (by omega)];have hw:=q.word s hs;have:=idx_mem (f:=fitL (narM p) (sAtN (slotsF p.g) s).2.2) (V:=p.W) (i:=0) hw.1 hw.2.1 (fit_mono (q.leq hc hn) (q.fit hs));rwa [Int.zero_add] at this
theorem Picked.left {p:Pr} {pick:List Int} {n:Nat} {ls:List Int} (hc:checkP p=0) (q:Picked p pick n ls) (hn:n=(slotsF p.g).length) {c:Nat} (h0:0≤ls.getD c (-1)):hasN ((narM p).getD c 0) (ls.getD c (-1))=true:=by
 have h1:=has_lt (q.low c h0).1;exact has_bit.2 ⟨h1.1,h1.2,q.leq hc hn _ _ (letM_has rfl h1.1 h1.2)⟩
theorem Picked.ok {p:Pr} {pick:List Int} {n:Nat} {ls:List Int} (hc:checkP p=0) (q:Picked p pick n ls) (hn:n=(slotsF p.g).length):narO p=true:=by
 rw[narO_eq hc];unfold okF;rw[Bool.and_eq_true,List.all_eq_true,List.all_eq_true];refine⟨fun w hw=> ?_,fun t ht=> ?_⟩
 ·obtain⟨s,hs,e⟩:=List.getElem_of_mem hw;have hs':s<n:=by rw[narW_len hc] at hs;omega
  have h1:=q.found hc hn hs';have e2:(narW p).getD s []=w:=by rw[gE,gQ hs];exact e
  rw[e2] at h1;have:=List.length_pos_of_mem h1;rw[decide_eq_true_eq];omega
 ·rw[List.all_eq_true];intro x hx;obtain⟨s,hs,e⟩:=List.getElem_of_mem ht;have et:sAtN (slotsF p.g) s=t:=by
   unfold sAtN;rw[gE,gQ hs];exact e
  rw[←et] at hx;obtain⟨j,hj⟩:=List.getElem?_of_mem hx;have h1:=(has_bit.1 (q.left hc hn (q.here s (by omega) j x hj).2)).2.2;rw[bne_iff_ne];intro e0;unfold bitAt at h1;rw[e0] at h1;simp at h1
set_option maxRecDepth 100000
abbrev slQ (L:List (Int×Int)):D:=sL SeT L
abbrev slBd (B:List (List (Int×Int))):D:=sL (.sl SeT) B
theorem con_nn {P:Program} {f:FuncId} {pre:List Row} {t:Ty} {xs:List t.El} {val:D} {post:List (Option Row)} {allocs:List Row} (hne:xs≠ []) (h:Con P f pre [.sl true false t xs] val post allocs):Con P f pre [sL t xs] val post allocs:=by
 refine⟨h.fn,fun w ρ S vs M hargs=>h.run w ρ S vs M ?_⟩;simp only[RelDs,RelD] at hargs⊢;obtain⟨u,us',e,⟨A,c,us,e2,h1,h2,h3,h4,h5,h6⟩,hr⟩:=hargs;refine⟨u,us',e,⟨A,c,us,e2,h1,h2,fun _ hA=> ?_,h4,h5,h6⟩,hr⟩;have:=h2 hA;have:0<xs.length:=List.length_pos_iff.2 hne;omega
def givenF:List (Int×Int)→List Nat→List Nat
 | [],m=>m
 |x::xs,m=>givenF xs (m.set x.1.toNat (m.getD x.1.toNat 0&&&ofN [x.2]))
theorem ofN_one (x:Int):ofN [x]=bitN x:=by
 unfold ofN bitN;simp only[ofA];by_cases h:0≤x∧x<64
 ·rw[if_pos h,if_neg (by omega),Nat.zero_or]
 ·rw[if_neg h,if_pos (by omega)]
theorem given_len:∀(F:List (Int×Int)) (m:List Nat),(givenF F m).length=m.length
 | [],_=>rfl
 |x::F,m=>by simp only[givenF];rw[given_len F];simp
theorem given_small:∀(F:List (Int×Int)) {m:List Nat},Smalls m→Smalls (givenF F m)
 | [],_,h=>h
 |x::F,m,h=>by
  simp only[givenF];refine given_small F ?_;intro y hy;rcases List.mem_or_eq_of_mem_set hy with h'|h'
  ·exact h y h'
  ·subst h';exact and_lt (h.at _)
def hereB (m:List Nat) (x:Int×Int):Bool:=hasN (m.getD x.1.toNat 0) x.2
def openB (m:List Nat) (x:Int×Int):Bool:=m.getD x.1.toNat 0 !=bitN x.2
def oneF:List (Int×Int)→Int×(Int×Int)
 | []=>(2,(0,0))
 |x::xs=>if xs.all (fun y=>y==x) then(1,x) else(0,(0,0))
def unitF (m:List Nat) (l:List (Int×Int)):Int×(Int×Int):=if l.all (hereB m) then oneF (l.filter (openB m)) else(0,(0,0))
def passF:List (List (Int×Int))→List Nat→Int→List Nat×Int
 | [],m,st=>(m,st)
 |l::ls,m,st=>if(unitF m l).1=2 then(m,2) else if(unitF m l).1=1 then passF ls (m.set (unitF m l).2.1.toNat (m.getD (unitF m l).2.1.toNat 0-bitN (unitF m l).2.2)) 1 else passF ls m st
def spreadF (g:Gr) (W:List (List Int)) (B:List (List (Int×Int))):Nat→List Nat→List Nat×Bool
 |0,q=>(q,true)
 |n+1,q=>if narO ⟨g,W,q⟩ then
   (if(passF B (narM ⟨g,W,q⟩) 0).2=2 then((passF B (narM ⟨g,W,q⟩) 0).1,false)
    else if(passF B (narM ⟨g,W,q⟩) 0).2=1 then spreadF g W B n (passF B (narM ⟨g,W,q⟩) 0).1
    else((passF B (narM ⟨g,W,q⟩) 0).1,true))
  else(narM ⟨g,W,q⟩,false)
def spreadG (p:Pr) (F:List (Int×Int)) (B:List (List (Int×Int))):List Nat×Bool:=spreadF p.g p.W B ((givenF F p.M).sum+1) (givenF F p.M)
def spR:Sp:=fun f args rd=>match f,args with
 |139,[m]=>match slC rd (.int .u64) [m] with
  |some M=>some {f:=139,args:=[slU (Nt M)],val:= .own 0 0 (Nt M).length none,allocs:=[.data 22 (.int .u64) (Mi (Nt M))],lent:=refsDs [m]}
  |none=>none
 |122,[.agg [.v (.int _ h),.v (.int _ w),b,r,l,ws,ms],fx]=>withP rd h w b r l ws ms fun p ls=>match slC rd SeT [fx] with
  |some F=>some {f:=122,args:=[p.d,slQ F],val:= .own 0 0 p.M.length none,allocs:=[.data 22 (.int .u64) (Mi (givenF F p.M))],lent:=ls++refsDs [fx]}
  |none=>none
 |126,[m,l]=>match slC rd (.int .u64) [m],slC rd SeT [l] with
  |some M,some L=>some {f:=126,args:=[slU (Nt M),slQ L],val:= .tup [.v (.int .i64 (unitF (Nt M) L).1),.agg [.v (.int .i64 (unitF (Nt M) L).2.1),.v (.int .i64 (unitF (Nt M) L).2.2)]],lent:=refsDs [m,l]}
  |_,_=>none
 |92,[.agg [.v (.int _ h),.v (.int _ w),b,r,l,ws,ms],fx,bd]=>withP rd h w b r l ws ms fun p ls=>match slC rd SeT [fx],slC rd (.sl SeT) [bd] with
  |some F,some B=>some {f:=92,args:=[p.d,slQ F,slBd B],val:= .tup [.own 0 0 (spreadG p F B).1.length none,.v (.bool (spreadG p F B).2)],allocs:=[.data 22 (.int .u64) (Mi (spreadG p F B).1)],lent:=ls++refsDs [fx,bd]}
  |_,_=>none
 |94,[.agg [.v (.int _ h),.v (.int _ w),b,r,l,ws,ms],fx,bd]=>withP rd h w b r l ws ms fun p ls=>match slC rd SeT [fx],slC rd (.sl SeT) [bd] with
  |some F,some B=>some {f:=94,args:=[p.d,slQ F,slBd B],val:= .v (.bool (!(spreadG p F B).2)),lent:=ls++refsDs [fx,bd]}
  |_,_=>none
 |f,args=>spNb f args rd
theorem room22 {n:Nat} (h:n≤17592186044416):roomy Tryd.prog 22 n:=by
 unfold roomy;rw[show Tryd.prog.bytesOf 22=8 by kernel_rfl];omega
theorem room92 {n:Nat} (h:n≤8796093022208):roomy Tryd.prog 92 n:=by
 unfold roomy;rw[show Tryd.prog.bytesOf 92=16 by kernel_rfl];omega
theorem oneF_all (O:List (Int×Int)):oneF O=if O=[] then(2,(0,0)) else if O.all (fun y=>y==O.getD 0 (0,0)) then(1,O.getD 0 (0,0)) else(0,(0,0)):=by
 cases O with
 |nil=>rfl
 |cons x xs=>
  rw[if_neg (by simp)];simp only[oneF,List.getD_cons_zero,List.all_cons,beq_self_eq_true,Bool.true_and]
noncomputable def r139:=bd Tryd.f139
noncomputable def r122:=bd Tryd.f122
noncomputable def r126:=bd Tryd.f126
noncomputable def r92:=bd Tryd.f92
noncomputable def r94:=bd Tryd.f94
noncomputable def r93:=bd Tryd.f93
noncomputable def r90:=bd Tryd.f90
noncomputable def r55:=bd Tryd.f55
noncomputable def r56:=bd Tryd.f56
theorem d139t (M:List Nat) (hl:M.length≤17592186044416):Con Tryd.prog 139 [] [.sl true false (.int .u64) (Mi M)] (o0 0 M.length) [] [.data 22 (.int .u64) (Mi M)]:=by
 refine con_vc (how:=[none]) (c:=r139) (K:=(KK r139)) spR (fun _=> []) (fun _=> []) 400 (.fork .stop .stop) (V:=fun G R=>(false=true→R (nD,[],[]))∧(false=false→rM 22 (0+(Mi M).length)∧R (o0 0 (0+(Mi M).length),[],[Row.data 22 tU (List.take 0 (List.drop 0 [])++Mi M)]))) hmG Tryd.func139 (by kernel_rfl) (by kernel_rfl) (fun G R=>by kernel_rfl) ?_;try dsimp only
 simp only[zz];simp (disch:=omega) only[oo,oop,oq,reduceCtorEq];repeat' first|with_reducible apply And.intro|intro _|rfl|omega|assumption|trivial|exact room22 (by omega)|exact room92 (by omega)|(exfalso;simp_all;done)
theorem d139 (M:List Nat) (hM:M≠ []) (hl:M.length≤17592186044416):Con Tryd.prog 139 [] [slU M] (o0 0 M.length) [] [.data 22 (.int .u64) (Mi M)]:=con_nn (by
 intro e;apply hM;have:=congrArg List.length e;rw[Mi_len] at this;exact List.length_eq_zero_iff.1 this) (d139t M hl)
def vq39 (F:List (Int×Int)) (i:Int) (Q:List Nat) (G:GT) (R:RT):Prop:=let yy0:=(F.getD i.toNat tQ.dflt);let yy1:=(List.drop 0 [yy0.snd]);(decide (i<F.length)=true→0≤i∧i<F.length∧(0:Int)≤yy0.fst∧yy0.fst< (↑Q.length:Int)∧0+Int.toNat yy0.fst< (Mi Q).length∧cP 24 [] [sL tI (List.take 1 yy1)] (D.v (Value.int .u64 (↑(ofN (List.take 1 yy1)):Int))) [] []∧List.take 1 yy1=List.take 1 yy1∧(0:Int)≤yy0.fst∧yy0.fst< (↑Q.length:Int)∧0+Int.toNat yy0.fst< (Mi Q).length∧sK r122 0∧G 0 (stOf 30 [5,11,12,13] [o0 0 Q.length,sL tQ F,vi F.length,vi (IntKind.i64.wrap (i+1))] [lD 22 tU ((Mi Q).set (0+Int.toNat yy0.fst) (IntKind.u64.wrap (↑(BitVec.ofInt 64 ((Mi Q).getD (0+Int.toNat yy0.fst) tU.dflt)&&&BitVec.ofInt 64 (↑(ofN (List.take 1 yy1)):Int)).toNat:Int)))]))∧(decide (i<F.length)=false→R (o0 0 Q.length,[],[Row.data 22 tU (Mi Q)]))
theorem e122 (F:List (Int×Int)) (QE:List Nat) (hFl:F.length≤8796093022208) (hF:∀x∈F,0≤x.1∧x.1<QE.length) (z:Nat):∀(i:Int) (Q:List Nat),0≤i→i+z=F.length→Smalls Q→Q.length=QE.length→givenF (F.drop i.toNat) Q=QE→GetsK Tryd.prog Tryd.f122.results.toList [none] (KK r122) 0 (o0 0 QE.length,[],[.data 22 (.int .u64) (Mi QE)]) 0 (stOf 30 [5,11,12,13] [o0 0 Q.length,slQ F,vi F.length,vi i] [lD 22 (.int .u64) (Mi Q)]):=by
 induction z with
 |zero=>
  intro i Q i0 hi hQ hl he;rw[List.drop_eq_nil_of_le (by omega)] at he;have he:Q=QE:=he;subst he;refine gets_vc spR (fun _=> [5,11,12,13]) (fun _=> []) 400 (.fork (.hd 0) .stop) (V:=vq39 F i Q) hmG (fun G R=>by kernel_rfl) ?_;unfold vq39;try dsimp only
  simp (disch:=omega) only[oo,oop,oq,reduceCtorEq];repeat' first|with_reducible apply And.intro|intro _|rfl|omega|assumption|trivial|exact room22 (by omega)|exact room92 (by omega)|(exfalso;simp_all;done)
 |succ z ih=>
  intro i Q i0 hi hQ hl he;have hk1:IntKind.i64.wrap (i+1)=i+1:=wrG (by omega) (by omega);have hx:=hF _ (getD_in (d:=(0,0)) (k:=i.toNat) (l:=F) (by omega));rw[drop_at (xs:=F) (i:=i) (0,0) i0 (by omega)] at he;obtain⟨x,hxx⟩:∃x,F.getD i.toNat (0,0)=x:=⟨_,rfl⟩;rw[hxx] at hx he;simp only[givenF] at he;have hof:ofN [x.2]<W64:=of_lt _ _ (by decide);have e1:=wrap_and (a:=Q.getD x.1.toNat 0) (b:=ofN [x.2]) (hQ.at _) hof;have hs:Smalls (Q.set x.1.toNat (Q.getD x.1.toNat 0&&&ofN [x.2])):=by
   have:=given_small [x] hQ;exact this
  have h1:=ih (i+1) _ (by omega) (by omega) hs (by rw[List.length_set];exact hl) he;rw[List.length_set] at h1;have c1:=d67 [x.2] (by simp);refine gets_vc spR (fun _=> [5,11,12,13]) (fun _=> []) 400 (.fork (.hd 0) .stop) (V:=vq39 F i Q) hmG (fun G R=>by kernel_rfl) ?_;unfold vq39;try dsimp only
  simp only[Ty.dflt,hk1,hxx,zz,e1];simp (disch:=omega) only[oo,oop,oq,reduceCtorEq];repeat' first|with_reducible apply And.intro|intro _|rfl|omega|assumption|trivial|exact room22 (by omega)|exact room92 (by omega)|(exfalso;simp_all;done)
theorem d122R (g:Gr) (W:List (List Int)) (M:List Nat) (F:List (Int×Int)) (hM:Smalls M) (hM0:M≠ []) (hMl:M.length≤17592186044416) (hFl:F.length≤8796093022208) (hF:∀x∈F,0≤x.1∧x.1<M.length):Con Tryd.prog 122 [] [.agg (gG g [slW W,slU M]),slQ F] (o0 0 M.length) [] [.data 22 (.int .u64) (Mi (givenF F M))]:=by
 refine con_vc (how:=[none]) (c:=r122) (K:=(KK r122)) spR (fun _=> [5,11,12,13]) (fun _=> []) 400 (.hd 0) (V:=fun G R=>cP 139 [] [sL tU (Mi (Nt (Mi M)))] (o0 0 (Nt (Mi M)).length) [] [Row.data 22 tU (Mi (Nt (Mi M)))]∧Mi M=Mi (Nt (Mi M))∧sK r122 0∧G 0 (stOf 30 [5,11,12,13] [o0 0 (Nt (Mi M)).length,sL tQ F,vi F.length,vi 0] [lD 22 tU (Mi (Nt (Mi M)))])) hmG Tryd.func122 (by kernel_rfl) (by kernel_rfl) (fun G R=>by kernel_rfl) ?_;try dsimp only
 have c1:=d139 M hM0 hMl;have hg:=given_len F M;have hx:=e122 F (givenF F M) hFl (by rw[hg];exact hF) F.length 0 M (by omega) (by omega) hM hg.symm rfl;rw[hg] at hx;simp only[Nt_Mi];simp (disch:=omega) only[oo,oop,oq,reduceCtorEq];repeat' first|with_reducible apply And.intro|intro _|rfl|omega|assumption|trivial|exact room22 (by omega)|exact room92 (by omega)|(exfalso;simp_all;done)
def vq40 (O:List (Int×Int)) (i:Int) (G:GT) (R:RT):Prop:=let yy1:=(Value.int .i64 (0:Int));let yy2:=(!((O.getD (0+i.toNat) tQ.dflt).fst==(O.getD 0 tQ.dflt).fst&&((O.getD (0+i.toNat) tQ.dflt).snd==(O.getD 0 tQ.dflt).snd&&true)));let yy3:=(↑O.length:Int);(decide (i<yy3)=true→0≤i∧i<yy3∧0+i.toNat<O.length∧(0:Int)≤0∧(0:Int)<yy3∧0<O.length∧(yy2=true→R (D.tup [D.v yy1,D.agg [D.v yy1,D.v yy1]],[],[]))∧(yy2=false→sK r126 1∧G 1 (stOf 70 [5,6,9] [p0,o0 1 O.length,vi (IntKind.i64.wrap (i+1))] [lB 92 [D.v yy1,D.v yy1],lD 92 tQ O])))∧(decide (i<yy3)=false→((yy3==(0:Int))=true→R (D.tup [vi 2,D.agg [D.v yy1,D.v yy1]],[],[]))∧((yy3==(0:Int))=false→(0:Int)≤0∧(0:Int)<yy3∧0<O.length∧R (D.tup [vi 1,D.agg [vi (O.getD 0 tQ.dflt).fst,vi (O.getD 0 tQ.dflt).snd]],[],[])))
theorem e126b (O:List (Int×Int)) (hO:O.length≤8796093022208) (z:Nat):∀(i:Int),0≤i→i+z=O.length→∀r,r=(if O=[] then((2:Int),((0:Int),(0:Int))) else if(O.drop i.toNat).all (fun y=>y==O.getD 0 (0,0)) then(1,O.getD 0 (0,0)) else(0,(0,0)))→GetsK Tryd.prog Tryd.f126.results.toList [none,none] (KK r126) 0 (.tup [vi r.1,.agg [vi r.2.1,vi r.2.2]],[],[]) 1 (stOf 70 [5,6,9] [.ptr 0 0 0,o0 1 O.length,vi i] [lB 92 [vi 0,vi 0],lD 92 SeT O]):=by
 induction z with
 |zero=>
  intro i i0 hi r hr;rw[List.drop_eq_nil_of_le (by omega),List.all_nil,if_pos rfl] at hr;refine gets_vc spR (fun k=>if k=0 then [0,1,5,6,7] else [5,6,9]) (fun k=> [⟨6,92,SeT⟩]) 400 (.fork (.fork .stop (.hd 1)) (.fork .stop .stop)) (V:=vq40 O i) hmG (fun G R=>by kernel_rfl) ?_;unfold vq40;try dsimp only
  by_cases h:O=[]
  ·subst h;rw[if_pos rfl] at hr;subst hr;simp (disch:=omega) only[oo,oop,oq,reduceCtorEq];repeat' first|with_reducible apply And.intro|intro _|rfl|omega|assumption|trivial|exact room22 (by omega)|exact room92 (by omega)|(exfalso;simp_all;done)
  ·rw[if_neg h] at hr;subst hr;have hl:O.length≠0:=fun e=>h (List.length_eq_zero_iff.1 e);have e1:((O.length:Int)==0)=false:=by rw[beq_eq_false_iff_ne];omega
   simp only[Ty.dflt,e1];simp (disch:=omega) only[oo,oop,oq,reduceCtorEq];repeat' first|with_reducible apply And.intro|intro _|rfl|omega|assumption|trivial|exact room22 (by omega)|exact room92 (by omega)|(exfalso;simp_all;done)
 |succ z ih=>
  intro i i0 hi r hr;have hk1:IntKind.i64.wrap (i+1)=i+1:=wrG (by omega) (by omega);have hO0:O≠ []:=by
   intro e;rw[e] at hi;simp at hi;omega
  rw[if_neg hO0,drop_at (xs:=O) (i:=i) (0,0) i0 (by omega),List.all_cons] at hr;have h1:=ih (i+1) (by omega) (by omega) _ rfl;rw[if_neg hO0] at h1;obtain⟨a,ha⟩:∃a,O.getD i.toNat (0,0)=a:=⟨_,rfl⟩;obtain⟨b,hb⟩:∃b,O.getD 0 (0,0)=b:=⟨_,rfl⟩;rw[ha,hb] at hr;rw[hb] at h1;refine gets_vc spR (fun k=>if k=0 then [0,1,5,6,7] else [5,6,9]) (fun k=> [⟨6,92,SeT⟩]) 400 (.fork (.fork .stop (.hd 1)) (.fork .stop .stop)) (V:=vq40 O i) hmG (fun G R=>by kernel_rfl) ?_;unfold vq40;try dsimp only
  simp only[Ty.dflt,hk1,ha,hb,Nat.zero_add];have e:(a.1==b.1&&(a.2==b.2&&true))=(a==b):=by
   rw[Bool.and_true];rfl
  rw[e];cases hab:(a==b) with
  |false=>
   rw[hab,Bool.false_and,if_neg (by simp)] at hr;subst hr;simp (disch:=omega) only[oo,oop,oq,reduceCtorEq];repeat' first|with_reducible apply And.intro|intro _|rfl|omega|assumption|trivial|exact room22 (by omega)|exact room92 (by omega)|(exfalso;simp_all;done)
  |true=>
   rw[hab,Bool.true_and] at hr;rw[←hr] at h1;simp (disch:=omega) only[oo,oop,oq,reduceCtorEq];repeat' first|with_reducible apply And.intro|intro _|rfl|omega|assumption|trivial|exact room22 (by omega)|exact room92 (by omega)|(exfalso;simp_all;done)
def vq41 (m:List Nat) (L:List (Int×Int)) (i:Int) (O:List (Int×Int)) (G:GT) (R:RT):Prop:=let yy0:=(L.getD i.toNat tQ.dflt);let yy1:=((Mi m).getD (Int.toNat yy0.fst) tU.dflt);let yy2:=(Value.int .i64 (0:Int));let yy4:=((Mi m).getD (Int.toNat yy0.fst) tU.dflt !=(↑(bitN yy0.snd):Int));let yy5:=(↑L.length:Int);(decide (i<yy5)=true→0≤i∧i<yy5∧(0:Int)≤yy0.fst∧yy0.fst< (↑(Mi m).length:Int)∧0≤i∧i<yy5∧cP 33 [] [D.v (Value.int .u64 yy1),vi yy0.snd] (vb (hasN (Int.toNat yy1) yy0.snd)) [] []∧Value.int .u64 yy1=Value.int .u64 yy1∧vE yy0.snd yy0.snd∧((!hasN (Int.toNat yy1) yy0.snd)=true→R (D.tup [D.v yy2,D.agg [D.v yy2,D.v yy2]],[],[]))∧((!hasN (Int.toNat yy1) yy0.snd)=false→0≤i∧i<yy5∧cP 74 [] [vi yy0.snd] (D.v (Value.int .u64 (↑(bitN yy0.snd):Int))) [] []∧vE yy0.snd yy0.snd∧(yy4=true→0≤i∧i<yy5∧rM 92 (O.length+1)∧sK r126 0∧G 0 (stOf 70 [0,1,5,6,7] [sL tU (Mi m),sL tQ L,p0,o0 1 (O.length+1),vi (IntKind.i64.wrap (i+1))] [lB 92 [D.v yy2,D.v yy2],lD 92 tQ (List.take O.length (List.drop 0 O)++List.take 1 (List.drop 0 [(yy0.fst,yy0.snd)]))]))∧(yy4=false→sK r126 0∧G 0 (stOf 70 [0,1,5,6,7] [sL tU (Mi m),sL tQ L,p0,o0 1 O.length,vi (IntKind.i64.wrap (i+1))] [lB 92 [D.v yy2,D.v yy2],lD 92 tQ O]))))∧(decide (i<yy5)=false→sK r126 1∧G 1 (stOf 70 [5,6,9] [p0,o0 1 O.length,D.v yy2] [lB 92 [D.v yy2,D.v yy2],lD 92 tQ O]))
theorem e126a (m:List Nat) (L:List (Int×Int)) (hm:Smalls m) (hLl:L.length≤8796093022208) (hL:∀x∈L,0≤x.1∧x.1<m.length) (z:Nat):∀(i:Int) (O:List (Int×Int)),0≤i→i+z=L.length→O.length≤i→∀r,r=(if(L.drop i.toNat).all (hereB m) then oneF (O++(L.drop i.toNat).filter (openB m)) else(0,(0,0)))→GetsK Tryd.prog Tryd.f126.results.toList [none,none] (KK r126) 0 (.tup [vi r.1,.agg [vi r.2.1,vi r.2.2]],[],[]) 0 (stOf 70 [0,1,5,6,7] [slU m,slQ L,.ptr 0 0 0,o0 1 O.length,vi i] [lB 92 [vi 0,vi 0],lD 92 SeT O]):=by
 induction z with
 |zero=>
  intro i O i0 hi hO r hr;rw[List.drop_eq_nil_of_le (by omega),List.all_nil,if_pos rfl,List.filter_nil,List.append_nil,oneF_all] at hr;have h1:=e126b O (by omega) O.length 0 (by omega) (by omega) r (by rw[hr,show(0:Int).toNat=0 from rfl,List.drop_zero]);refine gets_vc spR (fun k=>if k=0 then [0,1,5,6,7] else [5,6,9]) (fun k=> [⟨6,92,SeT⟩]) 400 (.fork (.fork .stop (.fork (.hd 0) (.hd 0))) (.hd 1)) (V:=vq41 m L i O) hmG (fun G R=>by kernel_rfl) ?_;unfold vq41;try dsimp only
  simp (disch:=omega) only[oo,oop,oq,reduceCtorEq];repeat' first|with_reducible apply And.intro|intro _|rfl|omega|assumption|trivial|exact room22 (by omega)|exact room92 (by omega)|(exfalso;simp_all;done)
 |succ z ih=>
  intro i O i0 hi hO r hr;have hk1:IntKind.i64.wrap (i+1)=i+1:=wrG (by omega) (by omega);have hx:=hL _ (getD_in (d:=(0,0)) (k:=i.toNat) (l:=L) (by omega));rw[drop_at (xs:=L) (i:=i) (0,0) i0 (by omega),List.all_cons,List.filter_cons] at hr;obtain⟨x,hxx⟩:∃x,L.getD i.toNat (0,0)=x:=⟨_,rfl⟩;rw[hxx] at hx hr;have c1:=d111 (m.getD x.1.toNat 0) x.2 (hm.at _);have c2:=d130 x.2;refine gets_vc spR (fun k=>if k=0 then [0,1,5,6,7] else [5,6,9]) (fun k=> [⟨6,92,SeT⟩]) 400 (.fork (.fork .stop (.fork (.hd 0) (.hd 0))) (.hd 1)) (V:=vq41 m L i O) hmG (fun G R=>by kernel_rfl) ?_;unfold vq41;try dsimp only
  simp only[Ty.dflt,hk1,hxx,zz];cases hh:hasN (m.getD x.1.toNat 0) x.2 with
  |false=>
   have hr:r=(0,(0,0)):=by
    rw[hr,show hereB m x=false from hh,Bool.false_and,if_neg (by simp)]
   subst hr;rw[hh] at c1;simp (disch:=omega) only[oo,oop,oq,reduceCtorEq];repeat' first|with_reducible apply And.intro|intro _|rfl|omega|assumption|trivial|exact room22 (by omega)|exact room92 (by omega)|(exfalso;simp_all;done)
  |true=>
   rw[hh] at c1;rw[show hereB m x=true from hh,Bool.true_and] at hr;by_cases ho:m.getD x.1.toNat 0=bitN x.2
   ·have hob:openB m x=false:=by simp only[openB,ho,bne_self_eq_false]
    have e1:(((m.getD x.1.toNat 0:Nat):Int) !=((bitN x.2:Nat):Int))=false:=by rw[ho];simp
    simp only[hob,Bool.false_eq_true,if_false] at hr;have h1:=ih (i+1) O (by omega) (by omega) (by omega) r hr;simp only[e1];simp (disch:=omega) only[oo,oop,oq,reduceCtorEq];repeat' first|with_reducible apply And.intro|intro _|rfl|omega|assumption|trivial|exact room22 (by omega)|exact room92 (by omega)|(exfalso;simp_all;done)
   ·have hob:openB m x=true:=by simp only[openB,bne_iff_ne,ne_eq];exact ho
    have e1:(((m.getD x.1.toNat 0:Nat):Int) !=((bitN x.2:Nat):Int))=true:=by rw[bne_iff_ne];omega
    rw[hob,if_pos rfl,List.append_cons] at hr;have h1:=ih (i+1) (O++[x]) (by omega) (by omega) (by simp;omega) r hr;rw[List.length_append,List.length_cons,List.length_nil] at h1;simp only[e1];rw[show((x.1,x.2):Int×Int)=x from rfl];simp (disch:=omega) only[oo,oop,oq,reduceCtorEq];repeat' first|with_reducible apply And.intro|intro _|rfl|omega|assumption|trivial|exact room22 (by omega)|exact room92 (by omega)|(exfalso;simp_all;done)
theorem d126R (m:List Nat) (L:List (Int×Int)) (hm:Smalls m) (hLl:L.length≤8796093022208) (hL:∀x∈L,0≤x.1∧x.1<m.length):Con Tryd.prog 126 [] [slU m,slQ L] (.tup [vi (unitF m L).1,.agg [vi (unitF m L).2.1,vi (unitF m L).2.2]]) [] []:=by
 refine con_vc (how:=[none,none]) (c:=r126) (K:=(KK r126)) spR (fun k=>if k=0 then [0,1,5,6,7] else [5,6,9]) (fun k=> [⟨6,92,SeT⟩]) 400 (.hd 0) (V:=fun G R=>sK r126 0∧G 0 (stOf 70 [0,1,5,6,7] [sL tU (Mi m),sL tQ L,p0,o0 1 0,vi 0] [lB 92 [vi 0,vi 0],lD 92 tQ []])) hmG Tryd.func126 (by kernel_rfl) (by kernel_rfl) (fun G R=>by kernel_rfl) ?_;try dsimp only
 have hx:=e126a m L hm hLl hL L.length 0 [] (by omega) (by omega) (by simp) (unitF m L) (by rw[show(0:Int).toNat=0 from rfl,List.drop_zero,List.nil_append];rfl);simp (disch:=omega) only[oo,oop,oq,reduceCtorEq];repeat' first|with_reducible apply And.intro|intro _|rfl|omega|assumption|trivial|exact room22 (by omega)|exact room92 (by omega)|(exfalso;simp_all;done)
theorem andn_sub {a b:Nat} (ha:a<W64) (hb:b<W64) (h:b&&&a=b):IntKind.u64.wrap ((BitVec.ofInt 64 (a:Int)&&& ~~~BitVec.ofInt 64 (b:Int)).toNat:Int)=((a-b:Nat):Int):=by
 have hle:b≤a:=by rw[←h];exact Nat.and_le_right
 have e:(BitVec.ofNat 64 a&&& ~~~BitVec.ofNat 64 b)=BitVec.ofNat 64 a-BitVec.ofNat 64 b:=by
  have hd:(BitVec.ofNat 64 a&&& ~~~BitVec.ofNat 64 b)&&&BitVec.ofNat 64 b=0#64:=by
   apply BitVec.eq_of_getLsbD_eq;intro i hi;simp only[BitVec.getLsbD_and,BitVec.getLsbD_not,BitVec.getLsbD_ofNat,BitVec.getLsbD_zero,hi,decide_true,Bool.true_and];cases a.testBit i<;>cases b.testBit i<;>simp
  have hor:(BitVec.ofNat 64 a&&& ~~~BitVec.ofNat 64 b)|||BitVec.ofNat 64 b=BitVec.ofNat 64 a:=by
   apply BitVec.eq_of_getLsbD_eq;intro i hi;have h2:=congrArg (fun n:Nat=>n.testBit i) h;simp only[Nat.testBit_and] at h2;simp only[BitVec.getLsbD_or,BitVec.getLsbD_and,BitVec.getLsbD_not,BitVec.getLsbD_ofNat,hi,decide_true,Bool.true_and];revert h2
   cases a.testBit i<;>cases b.testBit i<;>simp
  have hadd:(BitVec.ofNat 64 a&&& ~~~BitVec.ofNat 64 b)+BitVec.ofNat 64 b=BitVec.ofNat 64 a:=by
   rw[BitVec.add_eq_or_of_and_eq_zero _ _ hd,hor]
  rw[←BitVec.add_sub_cancel (BitVec.ofNat 64 a&&& ~~~BitVec.ofNat 64 b) (BitVec.ofNat 64 b),hadd]
 rw[BitVec.ofInt_natCast,BitVec.ofInt_natCast,e,BitVec.toNat_sub,BitVec.toNat_ofNat,BitVec.toNat_ofNat,Nat.mod_eq_of_lt ha,Nat.mod_eq_of_lt hb];have e2:(2^64-b+a)%2^64=a-b:=by
  have:(2^64-b+a)=2^64+(a-b):=by
   have:b<2^64:=hb;omega
  rw[this,Nat.add_mod_left,Nat.mod_eq_of_lt];have:a<2^64:=ha;omega
 rw[e2];exact wrU' (by omega)
theorem has_sub {v:Nat} {y:Int} (h:hasN v y=true):bitN y&&&v=bitN y∧0<bitN y∧bitN y≤v∧bitN y<W64:=by
 have h1:=has_lt h;have e:bitN y=2^y.toNat:=by unfold bitN;rw[if_neg (by omega)]
 have hb:v.testBit y.toNat=true:=by
  unfold hasN at h;simp only[Bool.and_eq_true,decide_eq_true_eq] at h;exact h.2.2
 have ha:bitN y&&&v=bitN y:=by
  rw[e];apply Nat.eq_of_testBit_eq;intro i;rw[Nat.testBit_and,Nat.testBit_two_pow];by_cases hi:y.toNat=i
  ·subst hi;rw[hb];simp
  ·simp[hi]
 refine⟨ha,by rw[e];exact Nat.two_pow_pos _,?_,by rw[e];exact u64_mask (by omega)⟩;rw[←ha];exact Nat.and_le_right
def restU (m:List Nat) (op:Int) (a:Int×Int) (xs:List (Int×Int)):Int×(Int×Int):=
 if xs.all (hereB m) then(if op=0 then oneF (xs.filter (openB m)) else if(xs.filter (openB m)).all (fun y=>y==a) then(1,a) else(0,(0,0))) else(0,(0,0))
theorem restU_nil0 {m:List Nat} {a:Int×Int}:restU m 0 a []=(2,(0,0)):=rfl
theorem restU_nil1 {m:List Nat} {a:Int×Int}:restU m 1 a []=(1,a):=rfl
theorem restU_no {m:List Nat} {op:Int} {a x:Int×Int} {xs:List (Int×Int)} (h:hereB m x=false):restU m op a (x::xs)=(0,(0,0)):=by
 unfold restU;rw[List.all_cons,h,Bool.false_and,if_neg (by simp)]
theorem restU_shut {m:List Nat} {op:Int} {a x:Int×Int} {xs:List (Int×Int)} (h:hereB m x=true) (ho:openB m x=false):restU m op a (x::xs)=restU m op a xs:=by
 unfold restU;rw[List.all_cons,h,Bool.true_and,List.filter_cons];simp only[ho,Bool.false_eq_true,if_false]
theorem restU_first {m:List Nat} {a x:Int×Int} {xs:List (Int×Int)} (h:hereB m x=true) (ho:openB m x=true):restU m 0 a (x::xs)=restU m 1 x xs:=by
 unfold restU;rw[List.all_cons,h,Bool.true_and,List.filter_cons];simp only[ho,if_true,eq_self,oneF,show((1:Int)=0)=False from by simp,if_false,Int.reduceEq]
theorem restU_same {m:List Nat} {a x:Int×Int} {xs:List (Int×Int)} (h:hereB m x=true) (ho:openB m x=true) (e:a=x):restU m 1 a (x::xs)=restU m 1 a xs:=by
 subst e;unfold restU;rw[List.all_cons,h,Bool.true_and,List.filter_cons];simp only[ho,if_true,show((1:Int)=0)=False from by simp,if_false,List.all_cons,beq_self_eq_true,Bool.true_and]
theorem restU_diff {m:List Nat} {a x:Int×Int} {xs:List (Int×Int)} (h:hereB m x=true) (ho:openB m x=true) (e:a≠x):restU m 1 a (x::xs)=(0,(0,0)):=by
 have hx:(x==a)=false:=by rw[beq_eq_false_iff_ne];exact fun q=>e q.symm
 unfold restU;rw[List.all_cons,h,Bool.true_and,List.filter_cons];simp only[ho,if_true,show((1:Int)=0)=False from by simp,if_false,List.all_cons,hx,Bool.false_and,Bool.false_eq_true,ite_self]
theorem unit_one {m:List Nat} {l:List (Int×Int)} (h:(unitF m l).1=1):(unitF m l).2∈l∧hereB m (unitF m l).2=true:=by
 unfold unitF at h⊢;split at h
 ·rename_i ha;rw[if_pos ha];rw[List.all_eq_true] at ha;cases hf:l.filter (openB m) with
  |nil=>rw[hf] at h;exact absurd h (by decide)
  |cons x xs=>
   rw[hf] at h;have hx:x∈l:=by
    have:x∈l.filter (openB m):=by rw[hf];exact List.mem_cons_self
    exact(List.mem_filter.1 this).1
   simp only[oneF] at h⊢;split at h
   ·rename_i hh;rw[if_pos hh];exact⟨hx,ha x hx⟩
   ·exact absurd h (by decide)
 ·exact absurd h (by decide)
def letgo (m:List Nat) (x:Int×Int):List Nat:=m.set x.1.toNat (m.getD x.1.toNat 0-bitN x.2)
theorem letgo_len (m:List Nat) (x:Int×Int):(letgo m x).length=m.length:=by unfold letgo;simp
theorem letgo_at (m:List Nat) (x:Int×Int) (c:Nat):(letgo m x).getD c 0≤m.getD c 0:=by
 unfold letgo;rw[getD_set_nat];split
 ·rename_i h;rw[←h.1];omega
 ·omega
theorem letgo_small {m:List Nat} (hm:Smalls m) (x:Int×Int):Smalls (letgo m x):=by
 intro y hy;obtain⟨j,hj,e⟩:=List.getElem_of_mem hy;have h1:(letgo m x).getD j 0=y:=by rw[gE,gQ hj,e];rfl
 rw[←h1];exact Nat.lt_of_le_of_lt (letgo_at m x j) (hm.at j)
theorem letgo_sum {m:List Nat} {x:Int×Int} (hx:x.1.toNat<m.length) (h:hereB m x=true):(letgo m x).sum<m.sum:=by
 refine sum_lt (letgo_len m x) (letgo_at m x) fun e=> ?_;have h1:=congrArg (fun l=>l.getD x.1.toNat 0) e;simp only[letgo] at h1;rw[getD_set_nat,if_pos ⟨rfl,hx⟩] at h1;have h2:=has_sub h;omega
theorem pass_cons (l:List (Int×Int)) (ls:List (List (Int×Int))) (m:List Nat) (st:Int):passF (l::ls) m st=if(unitF m l).1=2 then(m,2) else if(unitF m l).1=1 then passF ls (letgo m (unitF m l).2) 1 else passF ls m st:=rfl
theorem pass_facts (n:Nat):∀(B:List (List (Int×Int))) (m:List Nat) (st:Int),(∀l∈B,∀x∈l,0≤x.1∧x.1<n)→m.length=n→Smalls m→
  (passF B m st).1.length=n∧Smalls (passF B m st).1∧(passF B m st).1.sum≤m.sum∧(st=0→(passF B m st).2=1→(passF B m st).1.sum<m.sum)
 | [],m,st,_,hl,hm=>⟨hl,hm,Nat.le_refl _,fun h0 h1=>by simp only[passF] at h1;omega⟩
 |l::ls,m,st,hB,hl,hm=>by
  rw[pass_cons];by_cases h2:(unitF m l).1=2
  ·rw[if_pos h2];exact⟨hl,hm,Nat.le_refl _,fun _ h=>absurd h (by simp)⟩
  ·rw[if_neg h2];have hB':=fun l' (h:l'∈ls)=>hB l' (List.mem_cons_of_mem l h);by_cases h1:(unitF m l).1=1
   ·rw[if_pos h1];obtain⟨u1,u2⟩:=unit_one h1;have hr:=hB l List.mem_cons_self _ u1;have hs:=letgo_sum (m:=m) (x:=(unitF m l).2) (by omega) u2;obtain⟨a,b,c,d⟩:=pass_facts n ls (letgo m (unitF m l).2) 1 hB' (by rw[letgo_len];exact hl) (letgo_small hm _);exact⟨a,b,by omega,fun _ _=>by omega⟩
   ·rw[if_neg h1];exact pass_facts n ls m st hB' hl hm
def vq42 (g:Gr) (W:List (List Int)) (B:List (List (Int×Int))) (q:List Nat) (m:List Nat) (ws:List (List Int)) (ch:Bool) (i:Int) (l:List (Int×Int)) (k:Int) (op:Int) (a:Int×Int) (G:GT) (R:RT):Prop:=let yy1:=(stOf 105 [2,8,9,11,34,35,36] [sL tQ.sl B,p0,D.ptr 1 0 0,vb ch,sL tQ.sl B,vi B.length,vi (IntKind.i64.wrap (i+1))] [lB 73 (gG g [sL tI.sl W,o0 2 q.length]),lB 151 [o0 3 m.length,o0 4 ws.length,vb true],lD 22 tU (Mi q),lD 22 tU (Mi m),Slot.live (Row.nest (NK.mk 27 tI.sl 0 3 tI) ws none)]);let yy2:=(stOf 105 [2,8,9,11,34,35,36] [sL tQ.sl B,p0,D.ptr 1 0 0,vb true,sL tQ.sl B,vi B.length,vi (IntKind.i64.wrap (i+1))] [lB 73 (gG g [sL tI.sl W,o0 2 q.length]),lB 151 [o0 3 m.length,o0 4 ws.length,vb true],lD 22 tU (Mi q),lD 22 tU ((Mi m).set (0+a.fst.toNat) (IntKind.u64.wrap (↑(BitVec.ofInt 64 ((Mi m).getD (0+a.fst.toNat) tU.dflt)&&& ~~~BitVec.ofInt 64 (↑(ofN (List.take 1 (List.drop 0 [a.snd]))):Int)).toNat:Int))),Slot.live (Row.nest (NK.mk 27 tI.sl 0 3 tI) ws none)]);let yy3:=(decide (IntKind.i64.wrap (op+1)>(1:Int))=false→sK r92 1∧G 1 (stOf 105 [2,8,9,11,14,15,34,35,36,41,42,43] [sL tQ.sl B,p0,D.ptr 1 0 0,vb ch,vi (IntKind.i64.wrap (op+1)),D.ptr 2 0 0,sL tQ.sl B,vi B.length,vi i,sL tQ l,vi l.length,vi (IntKind.i64.wrap (k+1))] [lB 73 (gG g [sL tI.sl W,o0 3 q.length]),lB 151 [o0 4 m.length,o0 5 ws.length,vb true],lB 92 [vi (l.getD k.toNat tQ.dflt).fst,vi (l.getD k.toNat tQ.dflt).snd],lD 22 tU (Mi q),lD 22 tU (Mi m),Slot.live (Row.nest (NK.mk 27 tI.sl 0 3 tI) ws none)]));let yy4:=(l.getD k.toNat tQ.dflt);let yy5:=(stOf 105 [2,8,9,11,14,15,34,35,36,41,42,43] [sL tQ.sl B,p0,D.ptr 1 0 0,vb ch,vi op,D.ptr 2 0 0,sL tQ.sl B,vi B.length,vi i,sL tQ l,vi l.length,vi (IntKind.i64.wrap (k+1))] [lB 73 (gG g [sL tI.sl W,o0 3 q.length]),lB 151 [o0 4 m.length,o0 5 ws.length,vb true],lB 92 [vi a.fst,vi a.snd],lD 22 tU (Mi q),lD 22 tU (Mi m),Slot.live (Row.nest (NK.mk 27 tI.sl 0 3 tI) ws none)]);let yy6:=(stOf 105 [2,8,9,11,34,35,36] [sL tQ.sl B,p0,D.ptr 1 0 0,vb true,sL tQ.sl B,vi B.length,vi (IntKind.i64.wrap (i+1))] [lB 73 (gG g [sL tI.sl W,o0 2 q.length]),lB 151 [o0 3 m.length,o0 4 ws.length,vb true],lD 22 tU (Mi q),lD 22 tU ((Mi m).set (0+Int.toNat yy4.fst) (IntKind.u64.wrap (↑(BitVec.ofInt 64 ((Mi m).getD (0+Int.toNat yy4.fst) tU.dflt)&&& ~~~BitVec.ofInt 64 (↑(ofN (List.take 1 (List.drop 0 [yy4.snd]))):Int)).toNat:Int))),Slot.live (Row.nest (NK.mk 27 tI.sl 0 3 tI) ws none)]);let yy7:=((Mi m).getD (0+Int.toNat yy4.fst) tU.dflt);let yy8:=(List.drop 0 [yy4.snd]);let yy9:=(List.drop 0 [a.snd]);(decide (k<l.length)=true→0≤k∧k<l.length∧(0:Int)≤yy4.fst∧yy4.fst< (↑m.length:Int)∧0+Int.toNat yy4.fst< (Mi m).length∧cP 26 [] [D.v (Value.int .u64 yy7),vi yy4.snd] (vb (hasN (Int.toNat yy7) yy4.snd)) [] []∧Value.int .u64 yy7=Value.int .u64 yy7∧vE yy4.snd yy4.snd∧((!hasN (Int.toNat yy7) yy4.snd)=true→(decide ((2:Int)>1)=true→(((2:Int)==0)=true→R (D.tup [o0 0 m.length,vb false],[],[Row.data 22 tU (Mi m)]))∧(((2:Int)==0)=false→(((2:Int)==1)=true→(0:Int)≤a.fst∧a.fst< (↑m.length:Int)∧0+a.fst.toNat< (Mi m).length∧cP 24 [] [sL tI (List.take 1 yy9)] (D.v (Value.int .u64 (↑(ofN (List.take 1 yy9)):Int))) [] []∧List.take 1 yy9=List.take 1 yy9∧(0:Int)≤a.fst∧a.fst< (↑m.length:Int)∧0+a.fst.toNat< (Mi m).length∧sK r92 0∧G 0 yy2)∧(((2:Int)==1)=false→sK r92 0∧G 0 yy1)))∧(decide ((2:Int)>1)=false→sK r92 1∧G 1 (stOf 105 [2,8,9,11,14,15,34,35,36,41,42,43] [sL tQ.sl B,p0,D.ptr 1 0 0,vb ch,vi 2,D.ptr 2 0 0,sL tQ.sl B,vi B.length,vi i,sL tQ l,vi l.length,vi (IntKind.i64.wrap (k+1))] [lB 73 (gG g [sL tI.sl W,o0 3 q.length]),lB 151 [o0 4 m.length,o0 5 ws.length,vb true],lB 92 [vi a.fst,vi a.snd],lD 22 tU (Mi q),lD 22 tU (Mi m),Slot.live (Row.nest (NK.mk 27 tI.sl 0 3 tI) ws none)])))∧((!hasN (Int.toNat yy7) yy4.snd)=false→cP 24 [] [sL tI (List.take 1 yy8)] (D.v (Value.int .u64 (↑(ofN (List.take 1 yy8)):Int))) [] []∧List.take 1 yy8=List.take 1 yy8∧(((Mi m).getD (0+Int.toNat yy4.fst) tU.dflt !=(↑(ofN (List.take 1 yy8)):Int))=true→((op==(1:Int))=true→((a.fst==yy4.fst&&(a.snd==yy4.snd&&true))=true→sK r92 1∧G 1 yy5)∧((a.fst==yy4.fst&&(a.snd==yy4.snd&&true))=false→(decide (IntKind.i64.wrap (op+1)>(1:Int))=true→((IntKind.i64.wrap (op+1)==(0:Int))=true→R (D.tup [o0 0 m.length,vb false],[],[Row.data 22 tU (Mi m)]))∧((IntKind.i64.wrap (op+1)==(0:Int))=false→((IntKind.i64.wrap (op+1)==(1:Int))=true→(0:Int)≤yy4.fst∧yy4.fst< (↑m.length:Int)∧0+Int.toNat yy4.fst< (Mi m).length∧cP 24 [] [sL tI (List.take 1 yy8)] (D.v (Value.int .u64 (↑(ofN (List.take 1 yy8)):Int))) [] []∧List.take 1 yy8=List.take 1 yy8∧(0:Int)≤yy4.fst∧yy4.fst< (↑m.length:Int)∧0+Int.toNat yy4.fst< (Mi m).length∧sK r92 0∧G 0 yy6)∧((IntKind.i64.wrap (op+1)==(1:Int))=false→sK r92 0∧G 0 yy1)))∧yy3))∧((op==(1:Int))=false→false=false∧(decide (IntKind.i64.wrap (op+1)>(1:Int))=true→((IntKind.i64.wrap (op+1)==(0:Int))=true→R (D.tup [o0 0 m.length,vb false],[],[Row.data 22 tU (Mi m)]))∧((IntKind.i64.wrap (op+1)==(0:Int))=false→((IntKind.i64.wrap (op+1)==(1:Int))=true→(0:Int)≤yy4.fst∧yy4.fst< (↑m.length:Int)∧0+Int.toNat yy4.fst< (Mi m).length∧cP 24 [] [sL tI (List.take 1 yy8)] (D.v (Value.int .u64 (↑(ofN (List.take 1 yy8)):Int))) [] []∧List.take 1 yy8=List.take 1 yy8∧(0:Int)≤yy4.fst∧yy4.fst< (↑m.length:Int)∧0+Int.toNat yy4.fst< (Mi m).length∧sK r92 0∧G 0 yy6)∧((IntKind.i64.wrap (op+1)==(1:Int))=false→sK r92 0∧G 0 yy1)))∧yy3))∧(((Mi m).getD (0+Int.toNat yy4.fst) tU.dflt !=(↑(ofN (List.take 1 yy8)):Int))=false→(decide (op>(1:Int))=true→((op==(0:Int))=true→R (D.tup [o0 0 m.length,vb false],[],[Row.data 22 tU (Mi m)]))∧((op==(0:Int))=false→((op==(1:Int))=true→(0:Int)≤a.fst∧a.fst< (↑m.length:Int)∧0+a.fst.toNat< (Mi m).length∧cP 24 [] [sL tI (List.take 1 yy9)] (D.v (Value.int .u64 (↑(ofN (List.take 1 yy9)):Int))) [] []∧List.take 1 yy9=List.take 1 yy9∧(0:Int)≤a.fst∧a.fst< (↑m.length:Int)∧0+a.fst.toNat< (Mi m).length∧sK r92 0∧G 0 yy2)∧((op==(1:Int))=false→sK r92 0∧G 0 yy1)))∧(decide (op>(1:Int))=false→sK r92 1∧G 1 yy5))))∧(decide (k<l.length)=false→((op==(0:Int))=true→R (D.tup [o0 0 m.length,vb false],[],[Row.data 22 tU (Mi m)]))∧((op==(0:Int))=false→((op==(1:Int))=true→(0:Int)≤a.fst∧a.fst< (↑m.length:Int)∧0+a.fst.toNat< (Mi m).length∧cP 24 [] [sL tI (List.take 1 yy9)] (D.v (Value.int .u64 (↑(ofN (List.take 1 yy9)):Int))) [] []∧List.take 1 yy9=List.take 1 yy9∧(0:Int)≤a.fst∧a.fst< (↑m.length:Int)∧0+a.fst.toNat< (Mi m).length∧sK r92 0∧G 0 yy2)∧((op==(1:Int))=false→sK r92 0∧G 0 yy1)))
theorem e92c (g:Gr) (W:List (List Int)) (B:List (List (Int×Int))) (q m:List Nat) (ws:List (List Int)) (ch:Bool) (i:Int) (r:List Nat×Bool) (l:List (Int×Int)) (hm:Smalls m) (hll:l.length≤8796093022208) (hl:∀x∈l,0≤x.1∧x.1<m.length) (hii:IntKind.i64.wrap (i+1)=i+1) (u:Int×(Int×Int))
  (h2:u.1=2→r=(m,false)) (h1:u.1=1→GetsK Tryd.prog Tryd.f92.results.toList [none,none] (KK r92) 0 (.tup [o0 0 r.1.length,vb r.2],[],[.data 22 (.int .u64) (Mi r.1)]) 0 (stOf 105 [2,8,9,11,34,35,36] [slBd B,.ptr 0 0 0,.ptr 1 0 0,vb true,slBd B,vi B.length,vi (i+1)] [lB 73 (gG g [slW W,o0 2 q.length]),lB 151 [o0 3 (letgo m u.2).length,o0 4 ws.length,vb true],lD 22 (.int .u64) (Mi q),lD 22 (.int .u64) (Mi (letgo m u.2)),.live (.nest kW ws none)])) (h0:u.1=0→GetsK Tryd.prog Tryd.f92.results.toList [none,none] (KK r92) 0 (.tup [o0 0 r.1.length,vb r.2],[],[.data 22 (.int .u64) (Mi r.1)]) 0 (stOf 105 [2,8,9,11,34,35,36] [slBd B,.ptr 0 0 0,.ptr 1 0 0,vb ch,slBd B,vi B.length,vi (i+1)] [lB 73 (gG g [slW W,o0 2 q.length]),lB 151 [o0 3 m.length,o0 4 ws.length,vb true],lD 22 (.int .u64) (Mi q),lD 22 (.int .u64) (Mi m),.live (.nest kW ws none)])) (z:Nat):∀(k op:Int) (a:Int×Int),0≤k→k+z=l.length→(op=0∨op=1∧a∈l∧hereB m a=true)→restU m op a (l.drop k.toNat)=u→GetsK Tryd.prog Tryd.f92.results.toList [none,none] (KK r92) 0 (.tup [o0 0 r.1.length,vb r.2],[],[.data 22 (.int .u64) (Mi r.1)]) 1 (stOf 105 [2,8,9,11,14,15,34,35,36,41,42,43] [slBd B,.ptr 0 0 0,.ptr 1 0 0,vb ch,vi op,.ptr 2 0 0,slBd B,vi B.length,vi i,slQ l,vi l.length,vi k] [lB 73 (gG g [slW W,o0 3 q.length]),lB 151 [o0 4 m.length,o0 5 ws.length,vb true],lB 92 [vi a.1,vi a.2],lD 22 (.int .u64) (Mi q),lD 22 (.int .u64) (Mi m),.live (.nest kW ws none)]):=by
 induction z with
 |zero=>
  intro k op a k0 hk hop hu;rw[List.drop_eq_nil_of_le (by omega)] at hu;refine gets_vc spR (fun k=> [[2,8,9,11,34,35,36],[2,8,9,11,14,15,34,35,36,41,42,43]].getD k []) (fun _=> []) 400 (.fork (.fork (.fork (.fork .stop (.fork (.hd 0) (.hd 0))) (.hd 1)) (.fork (.fork (.fork (.hd 1) (.fork (.fork .stop (.fork (.hd 0) (.hd 0))) (.hd 1))) (.f (.fork (.fork .stop (.fork (.hd 0) (.hd 0))) (.hd 1)))) (.fork (.fork .stop (.fork (.hd 0) (.hd 0))) (.hd 1)))) (.fork .stop (.fork (.hd 0) (.hd 0)))) (V:=vq42 g W B q m ws ch i l k op a) hmG (fun G R=>by kernel_rfl) ?_;unfold vq42;try dsimp only
  rcases hop with hop|⟨hop,ha,hh⟩
  ·subst hop;rw[restU_nil0] at hu;have hr:=h2 (by rw[←hu]);subst hr;simp only[show((0:Int)==0)=true from rfl,show((0:Int)==1)=false from rfl];simp (disch:=omega) only[oo,oop,oq,reduceCtorEq];repeat' first|with_reducible apply And.intro|intro _|rfl|omega|assumption|trivial|(exfalso;simp_all;done)
  ·subst hop;rw[restU_nil1] at hu;have hg:=h1 (by rw[←hu]);rw[←hu] at hg;have hr:=hl a ha;obtain⟨b1,b2,b3,b4⟩:=has_sub hh;have c1:=d67 [a.2] (by simp);rw[ofN_one] at c1;have e1:=andn_sub (hm.at a.1.toNat) b4 b1;unfold letgo at hg;rw[List.length_set] at hg;simp only[show((1:Int)==0)=false from rfl,show((1:Int)==1)=true from rfl,Ty.dflt,hii,zz,Mi_take,ofN_one,e1];simp (disch:=omega) only[oo,oop,oq,reduceCtorEq];repeat' first|with_reducible apply And.intro|intro _|rfl|omega|assumption|trivial|(exfalso;simp_all;done)
 |succ z ih=>
  intro k op a k0 hk hop hu;have hk1:IntKind.i64.wrap (k+1)=k+1:=wrG (by omega) (by omega);have hxm:=getD_in (d:=((0:Int),(0:Int))) (k:=k.toNat) (l:=l) (by omega);have hx:=hl _ hxm;rw[drop_at (xs:=l) (i:=k) (0,0) k0 (by omega)] at hu;obtain⟨x,hxx⟩:∃x,l.getD k.toNat (0,0)=x:=⟨_,rfl⟩;rw[hxx] at hx hu hxm;have c1:=d66 (m.getD x.1.toNat 0) x.2 (hm.at _);have c2:=d67 [x.2] (by simp);rw[ofN_one] at c2;have w2:((2:Int)==0)=false:=rfl;have w3:((2:Int)==1)=false:=rfl;have w4:decide ((2:Int)>1)=true:=rfl;have w5:decide ((1:Int)>1)=false:=rfl;have w6:decide ((0:Int)>1)=false:=rfl;have w7:IntKind.i64.wrap ((0:Int)+1)=1:=by decide
  have w8:IntKind.i64.wrap ((1:Int)+1)=2:=by decide
  have w9:((0:Int)==1)=false:=rfl;have w10:((1:Int)==1)=true:=rfl;refine gets_vc spR (fun k=> [[2,8,9,11,34,35,36],[2,8,9,11,14,15,34,35,36,41,42,43]].getD k []) (fun _=> []) 400 (.fork (.fork (.fork (.fork .stop (.fork (.hd 0) (.hd 0))) (.hd 1)) (.fork (.fork (.fork (.hd 1) (.fork (.fork .stop (.fork (.hd 0) (.hd 0))) (.hd 1))) (.f (.fork (.fork .stop (.fork (.hd 0) (.hd 0))) (.hd 1)))) (.fork (.fork .stop (.fork (.hd 0) (.hd 0))) (.hd 1)))) (.fork .stop (.fork (.hd 0) (.hd 0)))) (V:=vq42 g W B q m ws ch i l k op a) hmG (fun G R=>by kernel_rfl) ?_;unfold vq42;try dsimp only
  cases hh:hereB m x with
  |false=>
   rw[restU_no hh] at hu;have hg:=h0 (by rw[←hu]);have hh':hasN (m.getD x.1.toNat 0) x.2=false:=hh;rw[hh'] at c1;simp only[Ty.dflt,hk1,hii,hxx,zz,Mi_take,hh',w2,w3,w4,Bool.not_false];simp (disch:=omega) only[oo,oop,oq,reduceCtorEq];repeat' first|with_reducible apply And.intro|intro _|rfl|omega|assumption|trivial|(exfalso;simp_all;done)
  |true=>
   have hh':hasN (m.getD x.1.toNat 0) x.2=true:=hh;rw[hh'] at c1;cases ho:openB m x with
   |false=>
    rw[restU_shut hh ho] at hu;have hg:=ih (k+1) op a (by omega) (by omega) hop hu;have e1:(((m.getD x.1.toNat 0:Nat):Int) !=((bitN x.2:Nat):Int))=false:=by
     simp only[openB,bne_eq_false_iff_eq] at ho;rw[ho];simp
    have w11:decide (op>1)=false:=by rcases hop with h|h<;>(rw[decide_eq_false_iff_not];omega)
    simp only[Ty.dflt,hk1,hii,hxx,zz,Mi_take,hh',ofN_one,e1,w11,Bool.not_true];simp (disch:=omega) only[oo,oop,oq,reduceCtorEq];repeat' first|with_reducible apply And.intro|intro _|rfl|omega|assumption|trivial|(exfalso;simp_all;done)
   |true=>
    have e1:(((m.getD x.1.toNat 0:Nat):Int) !=((bitN x.2:Nat):Int))=true:=by
     simp only[openB,bne_iff_ne,ne_eq] at ho;rw[bne_iff_ne];omega
    rcases hop with hop|⟨hop,ha,hah⟩
    ·subst hop;rw[restU_first hh ho] at hu;have hg:=ih (k+1) 1 x (by omega) (by omega) (Or.inr ⟨rfl,hxm,hh⟩) hu;simp only[Ty.dflt,hk1,hii,hxx,zz,Mi_take,hh',ofN_one,e1,w5,w7,w9,Bool.not_true];simp (disch:=omega) only[oo,oop,oq,reduceCtorEq];repeat' first|with_reducible apply And.intro|intro _|rfl|omega|assumption|trivial|(exfalso;simp_all;done)
    ·subst hop;have e2:(a.1==x.1&&(a.2==x.2&&true))=(a==x):=by
      rw[Bool.and_true];rfl
     by_cases e:a=x
     ·rw[restU_same hh ho e] at hu;have hg:=ih (k+1) 1 a (by omega) (by omega) (Or.inr ⟨rfl,ha,hah⟩) hu;have e3:(a==x)=true:=by rw[e];simp
      simp only[Ty.dflt,hk1,hii,hxx,zz,Mi_take,hh',ofN_one,e1,e2,e3,w10,Bool.not_true];simp (disch:=omega) only[oo,oop,oq,reduceCtorEq];repeat' first|with_reducible apply And.intro|intro _|rfl|omega|assumption|trivial|(exfalso;simp_all;done)
     ·rw[restU_diff hh ho e] at hu;have hg:=h0 (by rw[←hu]);have e3:(a==x)=false:=by rw[beq_eq_false_iff_ne];exact e
      simp only[Ty.dflt,hk1,hii,hxx,zz,Mi_take,hh',ofN_one,e1,e2,e3,w2,w3,w4,w8,w10,Bool.not_true];simp (disch:=omega) only[oo,oop,oq,reduceCtorEq];repeat' first|with_reducible apply And.intro|intro _|rfl|omega|assumption|trivial|(exfalso;simp_all;done)
theorem e92b (g:Gr) (W:List (List Int)) (B:List (List (Int×Int))) (q:List Nat) (ws:List (List Int)) (r:List Nat×Bool) (n:Nat) (hBl:B.length≤1000000) (hB:∀l∈B,l.length≤8796093022208∧∀x∈l,0≤x.1∧x.1<n) (mE:List Nat) (stE:Int) (hsE:Smalls mE)
  (h2:stE=2→r=(mE,false)) (h0:stE=0→r=(mE,true)) (h1a:stE=1→narO ⟨g,W,mE⟩=false→r=(narM ⟨g,W,mE⟩,false)) (h1b:stE=1→narO ⟨g,W,mE⟩=true→GetsK Tryd.prog Tryd.f92.results.toList [none,none] (KK r92) 0 (.tup [o0 0 r.1.length,vb r.2],[],[.data 22 (.int .u64) (Mi r.1)]) 0 (stOf 105 [2,8,9,11,34,35,36] [slBd B,.ptr 0 0 0,.ptr 1 0 0,vb false,slBd B,vi B.length,vi 0] [lB 73 (gG g [slW W,o0 2 mE.length]),lB 151 [o0 3 (narM ⟨g,W,mE⟩).length,o0 4 (narW ⟨g,W,mE⟩).length,vb true],lD 22 (.int .u64) (Mi mE),lD 22 (.int .u64) (Mi (narM ⟨g,W,mE⟩)),.live (.nest kW (narW ⟨g,W,mE⟩) none)])) (z:Nat):∀(i:Int) (m:List Nat) (st:Int) (ch:Bool),0≤i→i+z=B.length→Smalls m→m.length=n→(ch=true∧st=1∨ch=false∧st=0)→passF (B.drop i.toNat) m st=(mE,stE)→GetsK Tryd.prog Tryd.f92.results.toList [none,none] (KK r92) 0 (.tup [o0 0 r.1.length,vb r.2],[],[.data 22 (.int .u64) (Mi r.1)]) 0 (stOf 105 [2,8,9,11,34,35,36] [slBd B,.ptr 0 0 0,.ptr 1 0 0,vb ch,slBd B,vi B.length,vi i] [lB 73 (gG g [slW W,o0 2 q.length]),lB 151 [o0 3 m.length,o0 4 ws.length,vb true],lD 22 (.int .u64) (Mi q),lD 22 (.int .u64) (Mi m),.live (.nest kW ws none)]):=by
 induction z with
 |zero=>
  intro i m st ch i0 hi hm hl hc hp;rw[List.drop_eq_nil_of_le (by omega)] at hp;simp only[passF,Prod.mk.injEq] at hp;obtain⟨rfl,rfl⟩:=hp;rcases hc with⟨rfl,rfl⟩|⟨rfl,rfl⟩
  ·have c59:=d59 g W m hm;refine gets_vc spR (fun k=> [[2,8,9,11,34,35,36],[2,8,9,11,14,15,34,35,36,41,42,43]].getD k []) (fun _=> []) 400 (.fork (.hd 1) (.fork (.fork .stop (.hd 0)) .stop)) (V:=fun G R=>let yy0:=(Pr.mk g W (Nt (List.take m.length (List.drop 0 (Mi m)))));let yy2:=(Value.int .i64 (0:Int));(decide (i<B.length)=true→0≤i∧i<B.length∧sK r92 1∧G 1 (stOf 105 [2,8,9,11,14,15,34,35,36,41,42,43] [sL tQ.sl B,p0,D.ptr 1 0 0,vb true,D.v yy2,D.ptr 2 0 0,sL tQ.sl B,vi B.length,vi i,sL tQ (B.getD i.toNat tQ.sl.dflt),vi (↑(List.length (B.getD i.toNat tQ.sl.dflt)):Int),D.v yy2] [lB 73 (gG g [sL tI.sl W,o0 3 q.length]),lB 151 [o0 4 m.length,o0 5 ws.length,vb true],lB 92 [D.v yy2,D.v yy2],lD 22 tU (Mi q),lD 22 tU (Mi m),Slot.live (Row.nest (NK.mk 27 tI.sl 0 3 tI) ws none)]))∧(decide (i<B.length)=false→(true=true→cP 123 [] [D.agg (gG yy0.g [sL tI.sl yy0.W,sL tU (Mi yy0.M)])] (D.tup [D.agg [o0 0 (narM yy0).length,o0 1 (narW yy0).length,vb (narO yy0)],vi (checkP yy0)]) [] [Row.data 22 tU (Mi (narM yy0)),Row.nest (NK.mk 27 tI.sl 0 3 tI) (narW yy0) none]∧gS g yy0.g (W=yy0.W∧List.take m.length (List.drop 0 (Mi m))=Mi yy0.M∧((!narO yy0)=true→R (D.tup [o0 0 (narM yy0).length,vb false],[],[Row.data 22 tU (Mi (narM yy0))]))∧((!narO yy0)=false→sK r92 0∧G 0 (stOf 105 [2,8,9,11,34,35,36] [sL tQ.sl B,p0,D.ptr 1 0 0,vb false,sL tQ.sl B,vi B.length,D.v yy2] [lB 73 (gG g [sL tI.sl W,o0 2 m.length]),lB 151 [o0 3 (narM yy0).length,o0 4 (narW yy0).length,vb (narO yy0)],lD 22 tU (Mi m),lD 22 tU (Mi (narM yy0)),Slot.live (Row.nest (NK.mk 27 tI.sl 0 3 tI) (narW yy0) none)]))))∧(true=false→R (D.tup [o0 0 m.length,vb true],[],[Row.data 22 tU (Mi m)])))) hmG (fun G R=>by kernel_rfl) ?_
   try dsimp only
   simp only[narVal] at c59;simp only[zz,Mi_take];cases ho:narO ⟨g,W,m⟩ with
   |false=>
    have hr:=h1a rfl ho;subst hr;rw[ho] at c59;simp (disch:=omega) only[oo,oop,oq,reduceCtorEq];repeat' first|with_reducible apply And.intro|intro _|rfl|omega|assumption|trivial|(exfalso;simp_all;done)
   |true=>
    have hg:=h1b rfl ho;rw[ho] at c59;simp (disch:=omega) only[oo,oop,oq,reduceCtorEq];repeat' first|with_reducible apply And.intro|intro _|rfl|omega|assumption|trivial|(exfalso;simp_all;done)
  ·have hr:=h0 rfl;subst hr;refine gets_vc spR (fun k=> [[2,8,9,11,34,35,36],[2,8,9,11,14,15,34,35,36,41,42,43]].getD k []) (fun _=> []) 400 (.fork (.hd 1) (.fork (.fork .stop (.hd 0)) .stop)) (V:=fun G R=>let yy0:=(Pr.mk g W (Nt (List.take m.length (List.drop 0 (Mi m)))));let yy2:=(Value.int .i64 (0:Int));(decide (i<B.length)=true→0≤i∧i<B.length∧sK r92 1∧G 1 (stOf 105 [2,8,9,11,14,15,34,35,36,41,42,43] [sL tQ.sl B,p0,D.ptr 1 0 0,vb false,D.v yy2,D.ptr 2 0 0,sL tQ.sl B,vi B.length,vi i,sL tQ (B.getD i.toNat tQ.sl.dflt),vi (↑(List.length (B.getD i.toNat tQ.sl.dflt)):Int),D.v yy2] [lB 73 (gG g [sL tI.sl W,o0 3 q.length]),lB 151 [o0 4 m.length,o0 5 ws.length,vb true],lB 92 [D.v yy2,D.v yy2],lD 22 tU (Mi q),lD 22 tU (Mi m),Slot.live (Row.nest (NK.mk 27 tI.sl 0 3 tI) ws none)]))∧(decide (i<B.length)=false→(false=true→cP 123 [] [D.agg (gG yy0.g [sL tI.sl yy0.W,sL tU (Mi yy0.M)])] (D.tup [D.agg [o0 0 (narM yy0).length,o0 1 (narW yy0).length,vb (narO yy0)],vi (checkP yy0)]) [] [Row.data 22 tU (Mi (narM yy0)),Row.nest (NK.mk 27 tI.sl 0 3 tI) (narW yy0) none]∧gS g yy0.g (W=yy0.W∧List.take m.length (List.drop 0 (Mi m))=Mi yy0.M∧((!narO yy0)=true→R (D.tup [o0 0 (narM yy0).length,vb false],[],[Row.data 22 tU (Mi (narM yy0))]))∧((!narO yy0)=false→sK r92 0∧G 0 (stOf 105 [2,8,9,11,34,35,36] [sL tQ.sl B,p0,D.ptr 1 0 0,vb false,sL tQ.sl B,vi B.length,D.v yy2] [lB 73 (gG g [sL tI.sl W,o0 2 m.length]),lB 151 [o0 3 (narM yy0).length,o0 4 (narW yy0).length,vb (narO yy0)],lD 22 tU (Mi m),lD 22 tU (Mi (narM yy0)),Slot.live (Row.nest (NK.mk 27 tI.sl 0 3 tI) (narW yy0) none)]))))∧(false=false→R (D.tup [o0 0 m.length,vb true],[],[Row.data 22 tU (Mi m)])))) hmG (fun G R=>by kernel_rfl) ?_
   try dsimp only
   simp (disch:=omega) only[oo,oop,oq,reduceCtorEq];repeat' first|with_reducible apply And.intro|intro _|rfl|omega|assumption|trivial|(exfalso;simp_all;done)
 |succ z ih=>
  intro i m st ch i0 hi hm hl hc hp;have hk1:IntKind.i64.wrap (i+1)=i+1:=wrG (by omega) (by omega);have hxm:=getD_in (d:=([]:List (Int×Int))) (k:=i.toNat) (l:=B) (by omega);have hx:=hB _ hxm;rw[drop_at (xs:=B) (i:=i) ([]:List (Int×Int)) i0 (by omega),pass_cons] at hp;obtain⟨l,hll⟩:∃l,B.getD i.toNat []=l:=⟨_,rfl⟩;rw[hll] at hx hp;have hg:=e92c g W B q m ws ch i r l hm hx.1 (fun x h=>by have:=hx.2 x h;omega) hk1 (unitF m l)
   (fun e=>by
    rw[if_pos e] at hp;simp only[Prod.mk.injEq] at hp;rw[hp.1];exact h2 hp.2.symm)
   (fun e=>by
    rw[if_neg (by omega),if_pos e] at hp;exact ih (i+1) _ 1 true (by omega) (by omega) (letgo_small hm _) (by rw[letgo_len];exact hl) (Or.inl ⟨rfl,rfl⟩) hp)
   (fun e=>by
    rw[if_neg (by omega),if_neg (by omega)] at hp;exact ih (i+1) m st ch (by omega) (by omega) hm hl hc hp)
   l.length 0 0 (0,0) (by omega) (by omega) (Or.inl rfl) rfl
  refine gets_vc spR (fun k=> [[2,8,9,11,34,35,36],[2,8,9,11,14,15,34,35,36,41,42,43]].getD k []) (fun _=> []) 400 (.fork (.hd 1) (.fork (.fork .stop (.hd 0)) .stop)) (V:=fun G R=>let yy0:=(Pr.mk g W (Nt (List.take m.length (List.drop 0 (Mi m)))));let yy2:=(Value.int .i64 (0:Int));(decide (i<B.length)=true→0≤i∧i<B.length∧sK r92 1∧G 1 (stOf 105 [2,8,9,11,14,15,34,35,36,41,42,43] [sL tQ.sl B,p0,D.ptr 1 0 0,vb ch,D.v yy2,D.ptr 2 0 0,sL tQ.sl B,vi B.length,vi i,sL tQ (B.getD i.toNat tQ.sl.dflt),vi (↑(List.length (B.getD i.toNat tQ.sl.dflt)):Int),D.v yy2] [lB 73 (gG g [sL tI.sl W,o0 3 q.length]),lB 151 [o0 4 m.length,o0 5 ws.length,vb true],lB 92 [D.v yy2,D.v yy2],lD 22 tU (Mi q),lD 22 tU (Mi m),Slot.live (Row.nest (NK.mk 27 tI.sl 0 3 tI) ws none)]))∧(decide (i<B.length)=false→(ch=true→cP 123 [] [D.agg (gG yy0.g [sL tI.sl yy0.W,sL tU (Mi yy0.M)])] (D.tup [D.agg [o0 0 (narM yy0).length,o0 1 (narW yy0).length,vb (narO yy0)],vi (checkP yy0)]) [] [Row.data 22 tU (Mi (narM yy0)),Row.nest (NK.mk 27 tI.sl 0 3 tI) (narW yy0) none]∧gS g yy0.g (W=yy0.W∧List.take m.length (List.drop 0 (Mi m))=Mi yy0.M∧((!narO yy0)=true→R (D.tup [o0 0 (narM yy0).length,vb false],[],[Row.data 22 tU (Mi (narM yy0))]))∧((!narO yy0)=false→sK r92 0∧G 0 (stOf 105 [2,8,9,11,34,35,36] [sL tQ.sl B,p0,D.ptr 1 0 0,vb false,sL tQ.sl B,vi B.length,D.v yy2] [lB 73 (gG g [sL tI.sl W,o0 2 m.length]),lB 151 [o0 3 (narM yy0).length,o0 4 (narW yy0).length,vb (narO yy0)],lD 22 tU (Mi m),lD 22 tU (Mi (narM yy0)),Slot.live (Row.nest (NK.mk 27 tI.sl 0 3 tI) (narW yy0) none)]))))∧(ch=false→R (D.tup [o0 0 m.length,vb true],[],[Row.data 22 tU (Mi m)])))) hmG (fun G R=>by kernel_rfl) ?_
  try dsimp only
  simp only[Ty.dflt,hll];simp (disch:=omega) only[oo,oop,oq,reduceCtorEq];repeat' first|with_reducible apply And.intro|intro _|rfl|omega|assumption|trivial|(exfalso;simp_all;done)
theorem e92a (g:Gr) (W:List (List Int)) (B:List (List (Int×Int))) (n:Nat) (hBl:B.length≤1000000) (hB:∀l∈B,l.length≤8796093022208∧∀x∈l,0≤x.1∧x.1<n) (fu:Nat):∀q:List Nat,q.sum<fu→Smalls q→q.length=n→checkP ⟨g,W,q⟩=0→narO ⟨g,W,q⟩=true→∀r,r=spreadF g W B fu q→GetsK Tryd.prog Tryd.f92.results.toList [none,none] (KK r92) 0 (.tup [o0 0 r.1.length,vb r.2],[],[.data 22 (.int .u64) (Mi r.1)]) 0 (stOf 105 [2,8,9,11,34,35,36] [slBd B,.ptr 0 0 0,.ptr 1 0 0,vb false,slBd B,vi B.length,vi 0] [lB 73 (gG g [slW W,o0 2 q.length]),lB 151 [o0 3 (narM ⟨g,W,q⟩).length,o0 4 (narW ⟨g,W,q⟩).length,vb true],lD 22 (.int .u64) (Mi q),lD 22 (.int .u64) (Mi (narM ⟨g,W,q⟩)),.live (.nest kW (narW ⟨g,W,q⟩) none)]):=by
 induction fu with
 |zero=>intro q h;omega
 |succ fu ih=>
  intro q hs hq hl hc ho r hr;have hns:=nar_small hc hq;have hnl:=narM_len _ hc;simp only at hnl;have hsum:(narM ⟨g,W,q⟩).sum≤q.sum:=by
   refine sum_le hnl fun c=>sub_le fun i hi=> ?_;exact(nar_given hc) c i hi
  obtain⟨f1,f2,f3,f4⟩:=pass_facts n B (narM ⟨g,W,q⟩) 0 (fun l hl x hx=>(hB l hl).2 x hx) (by omega) hns;simp only[spreadF,ho,if_true] at hr;obtain⟨mE,stE,hE⟩:∃mE stE,passF B (narM ⟨g,W,q⟩) 0=(mE,stE):=⟨_,_,rfl⟩;rw[hE] at hr f1 f2 f3 f4;simp only at hr f1 f2 f3 f4;have hcE:checkP ⟨g,W,mE⟩=0:=by rw[again_check (p:=⟨g,W,q⟩) (by simp only;omega)];exact hc
  refine e92b g W B q _ r n hBl hB mE stE f2 (fun e=>by rw[hr,if_pos e]) (fun e=>by rw[hr,if_neg (by omega),if_neg (by omega)]) (fun e hn=> ?_) (fun e hn=> ?_) B.length 0 _ 0 false (by omega) (by omega) hns (by omega) (Or.inr ⟨rfl,rfl⟩) hE
  ·have h4:=f4 trivial e;rw[hr,if_neg (by omega),if_pos e];cases fu with
   |zero=>omega
   |succ fu=>
    simp only[spreadF,hn,Bool.false_eq_true,if_false]
  ·have h4:=f4 trivial e;exact ih mE (by omega) f2 f1 hcE hn r (by rw[hr,if_neg (by omega),if_pos e])
theorem d92 (g:Gr) (W:List (List Int)) (M:List Nat) (F:List (Int×Int)) (B:List (List (Int×Int))) (hc:checkP ⟨g,W,M⟩=0) (hM:Smalls M) (hFl:F.length≤8796093022208) (hF:∀x∈F,0≤x.1∧x.1<M.length) (hBl:B.length≤1000000) (hB:∀l∈B,l.length≤8796093022208∧∀x∈l,0≤x.1∧x.1<M.length):Con Tryd.prog 92 [] [.agg (gG g [slW W,slU M]),slQ F,slBd B] (.tup [o0 0 (spreadG ⟨g,W,M⟩ F B).1.length,vb (spreadG ⟨g,W,M⟩ F B).2]) [] [.data 22 (.int .u64) (Mi (spreadG ⟨g,W,M⟩ F B).1)]:=by
 refine con_vc (how:=[none,none]) (c:=r92) (K:=(KK r92)) spR (fun k=> [[2,8,9,11,34,35,36],[2,8,9,11,14,15,34,35,36,41,42,43]].getD k []) (fun _=> []) 400 (.fork .stop (.hd 0)) (V:=fun G R=>let yy0:=(Pr.mk g W (Nt (List.take (Pr.mk g W (Nt (Mi M))).M.length (List.drop 0 (Mi (givenF F (Pr.mk g W (Nt (Mi M))).M))))));let yy1:=(Pr.mk g W (Nt (Mi M)));cP 122 [] [D.agg (gG yy1.g [sL tI.sl yy1.W,sL tU (Mi yy1.M)]),sL tQ F] (o0 0 yy1.M.length) [] [Row.data 22 tU (Mi (givenF F yy1.M))]∧gS g yy1.g (W=yy1.W∧Mi M=Mi yy1.M∧F=F∧cP 123 [] [D.agg (gG yy0.g [sL tI.sl yy0.W,sL tU (Mi yy0.M)])] (D.tup [D.agg [o0 0 (narM yy0).length,o0 1 (narW yy0).length,vb (narO yy0)],vi (checkP yy0)]) [] [Row.data 22 tU (Mi (narM yy0)),Row.nest (NK.mk 27 tI.sl 0 3 tI) (narW yy0) none]∧gS g yy0.g (W=yy0.W∧List.take yy1.M.length (List.drop 0 (Mi (givenF F yy1.M)))=Mi yy0.M∧((!narO yy0)=true→R (D.tup [o0 0 (narM yy0).length,vb false],[],[Row.data 22 tU (Mi (narM yy0))]))∧((!narO yy0)=false→sK r92 0∧G 0 (stOf 105 [2,8,9,11,34,35,36] [sL tQ.sl B,p0,D.ptr 1 0 0,vb false,sL tQ.sl B,vi B.length,vi 0] [lB 73 (gG g [sL tI.sl W,o0 2 yy1.M.length]),lB 151 [o0 3 (narM yy0).length,o0 4 (narW yy0).length,vb (narO yy0)],lD 22 tU (Mi (givenF F yy1.M)),lD 22 tU (Mi (narM yy0)),Slot.live (Row.nest (NK.mk 27 tI.sl 0 3 tI) (narW yy0) none)]))))) hmG Tryd.func92 (by kernel_rfl) (by kernel_rfl) (fun G R=>by kernel_rfl) ?_
 try dsimp only
 try dsimp only
 have hMs:(M.length:Int)=g.h*g.w:=(checkP_zero hc).2.2.2;have hMl:M.length≤300:=by
  have hw:=hw_in (chk0.1 (checkP_zero hc).1).1 (chk0.1 (checkP_zero hc).1).2.1;simp only at hw;omega
 have hM0:M≠ []:=by
  intro e;have s1:=side_iff.1 (chk0.1 (checkP_zero hc).1).1;have s2:=side_iff.1 (chk0.1 (checkP_zero hc).1).2.1;simp only at s1 s2;rw[e] at hMs;have:0<g.h*g.w:=Int.mul_pos (by omega) (by omega);simp at hMs;omega
 have hgs:=given_small F hM;have hgl:=given_len F M;have c1:=d122R g W M F hM hM0 (by omega) hFl hF;have c59:=d59 g W (givenF F M) hgs;have hcq:checkP ⟨g,W,givenF F M⟩=0:=by rw[again_check (p:=⟨g,W,M⟩) hgl];exact hc
 have hTk:List.take M.length (Mi (givenF F M))=Mi (givenF F M):=by rw[←hgl];exact Mi_take _
 simp only[narVal] at c59;simp only[zz,hTk];obtain⟨r,hr⟩:∃r,spreadG ⟨g,W,M⟩ F B=r:=⟨_,rfl⟩;rw[hr];cases ho:narO ⟨g,W,givenF F M⟩ with
 |false=>
  have e:r=(narM ⟨g,W,givenF F M⟩,false):=by
   rw[←hr];simp only[spreadG,spreadF,ho,Bool.false_eq_true,if_false]
  rw[ho] at c59;subst e;simp (disch:=omega) only[oo,oop,oq,reduceCtorEq];repeat' first|with_reducible apply And.intro|intro _|rfl|omega|assumption|trivial|(exfalso;simp_all;done)
 |true=>
  have hg:=e92a g W B M.length hBl hB ((givenF F M).sum+1) (givenF F M) (by omega) hgs hgl hcq ho r hr.symm;rw[ho] at c59;rw[hgl] at hg;simp (disch:=omega) only[oo,oop,oq,reduceCtorEq];repeat' first|with_reducible apply And.intro|intro _|rfl|omega|assumption|trivial|(exfalso;simp_all;done)
theorem sub_wrap {a b:Nat} (hb:b≤a) (ha:a<W64):IntKind.u64.wrap ((a:Int)-(b:Int))=((a-b:Nat):Int):=by
 rw[show((a:Int)-(b:Int))=((a-b:Nat):Int) by omega];exact wrU' (by omega)
theorem bitN_lt (y:Int):bitN y<W64:=by
 rw[←ofN_one];exact of_lt _ _ (by decide)
theorem right_fits {g:Gr} {W:List (List Int)} {M:List Nat} (hc:checkP ⟨g,W,M⟩=0) (hM:Smalls M):(Pr.mk g W M).fits∧M.length≤300∧M≠ []:=by
 obtain⟨h1,h2,h3,h4⟩:=checkP_zero hc;simp only at h1 h2 h3 h4;have hw:=hw_in (chk0.1 h1).1 (chk0.1 h1).2.1;have sz:=size3 (chk0.1 h1).2.2.1;have s1:=side_iff.1 (chk0.1 h1).1;have s2:=side_iff.1 (chk0.1 h1).2.1;have hpos:0<g.h*g.w:=Int.mul_pos (by omega) (by omega);refine⟨⟨⟨by simp only;omega,by simp only;omega,by simp only;omega⟩,by simp only;omega,fun w h=> ?_,by simp only;omega,hM⟩,by omega,fun e=> ?_⟩
 ·have:=(h3 w h).2.1;omega
 ·rw[e] at h4;simp at h4;omega
theorem e94c (g:Gr) (W:List (List Int)) (B:List (List (Int×Int))) (n:Nat) (hBl:B.length≤1000000) (hB:∀l∈B,l.length≤8796093022208∧∀x∈l,0≤x.1∧x.1<n) (b:Bool) (mE:List Nat) (stE:Int) (h2:stE=2→b=true) (h0:stE=0→b=false) (h1:stE=1→GetsK Tryd.prog Tryd.f94.results.toList [none] (KK r94) 0 (vb b,[],[]) 1 (stOf 95 [2,7] [slBd B,.ptr 0 0 0] [lB 73 [vi g.h,vi g.w,o0 1 g.B.length,o0 2 g.R.length,o0 3 g.L.length,o0 4 W.length,o0 5 mE.length],lD 4 .bool g.B,lD 4 .bool g.R,lD 4 .bool g.L,lD 27 WT W,lD 22 (.int .u64) (Mi mE)])) (z:Nat):∀(i:Int) (m:List Nat) (st:Int) (ch:Bool),0≤i→i+z=B.length→Smalls m→m.length=n→(ch=true∧st=1∨ch=false∧st=0)→passF (B.drop i.toNat) m st=(mE,stE)→GetsK Tryd.prog Tryd.f94.results.toList [none] (KK r94) 0 (vb b,[],[]) 2 (stOf 95 [2,7,11,12] [slBd B,.ptr 0 0 0,vb ch,vi i] [lB 73 [vi g.h,vi g.w,o0 1 g.B.length,o0 2 g.R.length,o0 3 g.L.length,o0 4 W.length,o0 5 m.length],lD 4 .bool g.B,lD 4 .bool g.R,lD 4 .bool g.L,lD 27 WT W,lD 22 (.int .u64) (Mi m)]):=by
 induction z with
 |zero=>
  intro i m st ch i0 hi hm hl hc hp;rw[List.drop_eq_nil_of_le (by omega)] at hp;simp only[passF,Prod.mk.injEq] at hp;obtain⟨rfl,rfl⟩:=hp;rcases hc with⟨rfl,rfl⟩|⟨rfl,rfl⟩
  ·have hg:=h1 rfl;refine gets_vc spR (fun k=> [[1,2,7,8],[2,7],[2,7,11,12]].getD k []) (fun _=> []) 400 (.fork (.fork .stop (.fork (.hd 2) (.hd 2))) (.fork .stop (.hd 1))) (V:=fun G R=>let yy0:=(unitF (Nt (List.take m.length (List.drop 0 (Mi m)))) (B.getD i.toNat tQ.sl.dflt));let yy1:=(Row.box 73 [vi g.h,vi g.w,o0 1 g.B.length,o0 2 g.R.length,o0 3 g.L.length,o0 4 W.length,o0 5 m.length]);(decide (i<B.length)=true→0≤i∧i<B.length∧cP 126 [] [sL tU (Mi (Nt (List.take m.length (List.drop 0 (Mi m))))),sL tQ (B.getD i.toNat tQ.sl.dflt)] (D.tup [vi yy0.fst,D.agg [vi yy0.snd.fst,vi yy0.snd.snd]]) [] []∧List.take m.length (List.drop 0 (Mi m))=Mi (Nt (List.take m.length (List.drop 0 (Mi m))))∧B.getD i.toNat tQ.sl.dflt=B.getD i.toNat tQ.sl.dflt∧((yy0.fst==(2:Int))=true→R (vb true,[],[]))∧((yy0.fst==(2:Int))=false→((yy0.fst==(1:Int))=true→(0:Int)≤yy0.snd.fst∧yy0.snd.fst< (↑m.length:Int)∧0+yy0.snd.fst.toNat< (Mi m).length∧cP 74 [] [vi yy0.snd.snd] (D.v (Value.int .u64 (↑(bitN yy0.snd.snd):Int))) [] []∧vE yy0.snd.snd yy0.snd.snd∧(0:Int)≤yy0.snd.fst∧yy0.snd.fst< (↑m.length:Int)∧0+yy0.snd.fst.toNat< (Mi m).length∧sK r94 2∧G 2 (stOf 95 [2,7,11,12] [sL tQ.sl B,p0,vb true,vi (IntKind.i64.wrap (i+1))] [Slot.live yy1,lD 4 tB g.B,lD 4 tB g.R,lD 4 tB g.L,lD 27 tI.sl W,lD 22 tU ((Mi m).set (0+yy0.snd.fst.toNat) (IntKind.u64.wrap ((Mi m).getD (0+yy0.snd.fst.toNat) tU.dflt-(↑(bitN yy0.snd.snd):Int))))]))∧((yy0.fst==(1:Int))=false→sK r94 2∧G 2 (stOf 95 [2,7,11,12] [sL tQ.sl B,p0,vb true,vi (IntKind.i64.wrap (i+1))] [Slot.live yy1,lD 4 tB g.B,lD 4 tB g.R,lD 4 tB g.L,lD 27 tI.sl W,lD 22 tU (Mi m)]))))∧(decide (i<B.length)=false→((!true)=true→R (vb false,[],[]))∧((!true)=false→sK r94 1∧G 1 (stOf 95 [2,7] [sL tQ.sl B,p0] [Slot.live yy1,lD 4 tB g.B,lD 4 tB g.R,lD 4 tB g.L,lD 27 tI.sl W,lD 22 tU (Mi m)])))) hmG (fun G R=>by kernel_rfl) ?_
   try dsimp only
   simp only[Bool.not_true];simp (disch:=omega) only[oo,oop,oq,reduceCtorEq];repeat' first|with_reducible apply And.intro|intro _|rfl|omega|assumption|trivial|(exfalso;simp_all;done)
  ·have hb:=h0 rfl;subst hb;refine gets_vc spR (fun k=> [[1,2,7,8],[2,7],[2,7,11,12]].getD k []) (fun _=> []) 400 (.fork (.fork .stop (.fork (.hd 2) (.hd 2))) (.fork .stop (.hd 1))) (V:=fun G R=>let yy0:=(unitF (Nt (List.take m.length (List.drop 0 (Mi m)))) (B.getD i.toNat tQ.sl.dflt));let yy1:=(Row.box 73 [vi g.h,vi g.w,o0 1 g.B.length,o0 2 g.R.length,o0 3 g.L.length,o0 4 W.length,o0 5 m.length]);(decide (i<B.length)=true→0≤i∧i<B.length∧cP 126 [] [sL tU (Mi (Nt (List.take m.length (List.drop 0 (Mi m))))),sL tQ (B.getD i.toNat tQ.sl.dflt)] (D.tup [vi yy0.fst,D.agg [vi yy0.snd.fst,vi yy0.snd.snd]]) [] []∧List.take m.length (List.drop 0 (Mi m))=Mi (Nt (List.take m.length (List.drop 0 (Mi m))))∧B.getD i.toNat tQ.sl.dflt=B.getD i.toNat tQ.sl.dflt∧((yy0.fst==(2:Int))=true→R (vb true,[],[]))∧((yy0.fst==(2:Int))=false→((yy0.fst==(1:Int))=true→(0:Int)≤yy0.snd.fst∧yy0.snd.fst< (↑m.length:Int)∧0+yy0.snd.fst.toNat< (Mi m).length∧cP 74 [] [vi yy0.snd.snd] (D.v (Value.int .u64 (↑(bitN yy0.snd.snd):Int))) [] []∧vE yy0.snd.snd yy0.snd.snd∧(0:Int)≤yy0.snd.fst∧yy0.snd.fst< (↑m.length:Int)∧0+yy0.snd.fst.toNat< (Mi m).length∧sK r94 2∧G 2 (stOf 95 [2,7,11,12] [sL tQ.sl B,p0,vb true,vi (IntKind.i64.wrap (i+1))] [Slot.live yy1,lD 4 tB g.B,lD 4 tB g.R,lD 4 tB g.L,lD 27 tI.sl W,lD 22 tU ((Mi m).set (0+yy0.snd.fst.toNat) (IntKind.u64.wrap ((Mi m).getD (0+yy0.snd.fst.toNat) tU.dflt-(↑(bitN yy0.snd.snd):Int))))]))∧((yy0.fst==(1:Int))=false→sK r94 2∧G 2 (stOf 95 [2,7,11,12] [sL tQ.sl B,p0,vb false,vi (IntKind.i64.wrap (i+1))] [Slot.live yy1,lD 4 tB g.B,lD 4 tB g.R,lD 4 tB g.L,lD 27 tI.sl W,lD 22 tU (Mi m)]))))∧(decide (i<B.length)=false→((!false)=true→R (vb false,[],[]))∧((!false)=false→sK r94 1∧G 1 (stOf 95 [2,7] [sL tQ.sl B,p0] [Slot.live yy1,lD 4 tB g.B,lD 4 tB g.R,lD 4 tB g.L,lD 27 tI.sl W,lD 22 tU (Mi m)])))) hmG (fun G R=>by kernel_rfl) ?_
   try dsimp only
   simp only[Bool.not_false];simp (disch:=omega) only[oo,oop,oq,reduceCtorEq];repeat' first|with_reducible apply And.intro|intro _|rfl|omega|assumption|trivial|(exfalso;simp_all;done)
 |succ z ih=>
  intro i m st ch i0 hi hm hl hc hp;have hk1:IntKind.i64.wrap (i+1)=i+1:=wrG (by omega) (by omega);have hxm:=getD_in (d:=([]:List (Int×Int))) (k:=i.toNat) (l:=B) (by omega);have hx:=hB _ hxm;rw[drop_at (xs:=B) (i:=i) ([]:List (Int×Int)) i0 (by omega),pass_cons] at hp;obtain⟨l,hll⟩:∃l,B.getD i.toNat []=l:=⟨_,rfl⟩;rw[hll] at hx hp;have c1:=d126R m l hm hx.1 (fun x h=>by have:=hx.2 x h;omega);obtain⟨u,hu⟩:∃u,unitF m l=u:=⟨_,rfl⟩;have hu1:=fun(e:(unitF m l).1=1)=>unit_one e;rw[hu] at hp c1 hu1;have w1:((2:Int)==2)=true:=rfl;have w2:((1:Int)==2)=false:=rfl;have w3:((1:Int)==1)=true:=rfl;refine gets_vc spR (fun k=> [[1,2,7,8],[2,7],[2,7,11,12]].getD k []) (fun _=> []) 400 (.fork (.fork .stop (.fork (.hd 2) (.hd 2))) (.fork .stop (.hd 1))) (V:=fun G R=>let yy0:=(unitF (Nt (List.take m.length (List.drop 0 (Mi m)))) (B.getD i.toNat tQ.sl.dflt));let yy1:=(Row.box 73 [vi g.h,vi g.w,o0 1 g.B.length,o0 2 g.R.length,o0 3 g.L.length,o0 4 W.length,o0 5 m.length]);(decide (i<B.length)=true→0≤i∧i<B.length∧cP 126 [] [sL tU (Mi (Nt (List.take m.length (List.drop 0 (Mi m))))),sL tQ (B.getD i.toNat tQ.sl.dflt)] (D.tup [vi yy0.fst,D.agg [vi yy0.snd.fst,vi yy0.snd.snd]]) [] []∧List.take m.length (List.drop 0 (Mi m))=Mi (Nt (List.take m.length (List.drop 0 (Mi m))))∧B.getD i.toNat tQ.sl.dflt=B.getD i.toNat tQ.sl.dflt∧((yy0.fst==(2:Int))=true→R (vb true,[],[]))∧((yy0.fst==(2:Int))=false→((yy0.fst==(1:Int))=true→(0:Int)≤yy0.snd.fst∧yy0.snd.fst< (↑m.length:Int)∧0+yy0.snd.fst.toNat< (Mi m).length∧cP 74 [] [vi yy0.snd.snd] (D.v (Value.int .u64 (↑(bitN yy0.snd.snd):Int))) [] []∧vE yy0.snd.snd yy0.snd.snd∧(0:Int)≤yy0.snd.fst∧yy0.snd.fst< (↑m.length:Int)∧0+yy0.snd.fst.toNat< (Mi m).length∧sK r94 2∧G 2 (stOf 95 [2,7,11,12] [sL tQ.sl B,p0,vb true,vi (IntKind.i64.wrap (i+1))] [Slot.live yy1,lD 4 tB g.B,lD 4 tB g.R,lD 4 tB g.L,lD 27 tI.sl W,lD 22 tU ((Mi m).set (0+yy0.snd.fst.toNat) (IntKind.u64.wrap ((Mi m).getD (0+yy0.snd.fst.toNat) tU.dflt-(↑(bitN yy0.snd.snd):Int))))]))∧((yy0.fst==(1:Int))=false→sK r94 2∧G 2 (stOf 95 [2,7,11,12] [sL tQ.sl B,p0,vb ch,vi (IntKind.i64.wrap (i+1))] [Slot.live yy1,lD 4 tB g.B,lD 4 tB g.R,lD 4 tB g.L,lD 27 tI.sl W,lD 22 tU (Mi m)]))))∧(decide (i<B.length)=false→((!ch)=true→R (vb false,[],[]))∧((!ch)=false→sK r94 1∧G 1 (stOf 95 [2,7] [sL tQ.sl B,p0] [Slot.live yy1,lD 4 tB g.B,lD 4 tB g.R,lD 4 tB g.L,lD 27 tI.sl W,lD 22 tU (Mi m)])))) hmG (fun G R=>by kernel_rfl) ?_
  try dsimp only
  simp only[Ty.dflt,hll,hk1,zz,Mi_take,hu];by_cases e2:u.1=2
  ·rw[if_pos e2] at hp;simp only[Prod.mk.injEq] at hp;have hb:=h2 hp.2.symm;subst hb;have w:(u.1==2)=true:=by rw[e2];rfl
   simp only[w];simp (disch:=omega) only[oo,oop,oq,reduceCtorEq];repeat' first|with_reducible apply And.intro|intro _|rfl|omega|assumption|trivial|(exfalso;simp_all;done)
  ·rw[if_neg e2] at hp;have w:(u.1==2)=false:=by rw[beq_eq_false_iff_ne];exact e2
   by_cases e1:u.1=1
   ·rw[if_pos e1] at hp;obtain⟨v1,v2⟩:=hu1 e1;have hr:=hx.2 _ v1;obtain⟨b1,b2,b3,b4⟩:=has_sub v2;have hg:=ih (i+1) (letgo m u.2) 1 true (by omega) (by omega) (letgo_small hm _) (by rw[letgo_len];exact hl) (Or.inl ⟨rfl,rfl⟩) hp;unfold letgo at hg;rw[List.length_set] at hg;have w4:(u.1==1)=true:=by rw[e1];rfl
    have e3:=sub_wrap b3 (hm.at u.2.1.toNat);have c2:=d130 u.2.2;simp only[w,w4,e3,Mi_set];simp (disch:=omega) only[oo,oop,oq,reduceCtorEq];repeat' first|with_reducible apply And.intro|intro _|rfl|omega|assumption|trivial|(exfalso;simp_all;done)
   ·rw[if_neg e1] at hp;have hg:=ih (i+1) m st ch (by omega) (by omega) hm hl hc hp;have w4:(u.1==1)=false:=by rw[beq_eq_false_iff_ne];exact e1
    simp only[w,w4];simp (disch:=omega) only[oo,oop,oq,reduceCtorEq];repeat' first|with_reducible apply And.intro|intro _|rfl|omega|assumption|trivial|(exfalso;simp_all;done)
def vq43 (g:Gr) (W:List (List Int)) (B:List (List (Int×Int))) (q:List Nat) (G:GT) (R:RT):Prop:=let yy0:=(Pr.mk g (List.take W.length (List.drop 0 W)) (Nt (List.take q.length (List.drop 0 (Mi q)))));cP 125 [] [D.agg (gG yy0.g [sL tI.sl yy0.W,sL tU (Mi yy0.M)])] (D.tup [D.agg [o0 0 (narM yy0).length,o0 1 (narW yy0).length,vb (narO yy0)],vi (checkP yy0)]) [] [Row.data 22 tU (Mi (narM yy0)),Row.nest (NK.mk 27 tI.sl 0 3 tI) (narW yy0) none]∧vE g.h yy0.g.h∧vE g.w yy0.g.w∧List.take g.B.length (List.drop 0 g.B)=yy0.g.B∧List.take g.R.length (List.drop 0 g.R)=yy0.g.R∧List.take g.L.length (List.drop 0 g.L)=yy0.g.L∧List.take W.length (List.drop 0 W)=yy0.W∧List.take q.length (List.drop 0 (Mi q))=Mi yy0.M∧((!narO yy0)=true→R (vb true,[],[]))∧((!narO yy0)=false→sK r94 2∧G 2 (stOf 95 [2,7,11,12] [sL tQ.sl B,p0,vb false,vi 0] [lB 73 [vi g.h,vi g.w,o0 1 g.B.length,o0 2 g.R.length,o0 3 g.L.length,o0 4 W.length,o0 5 (narM yy0).length],lD 4 tB g.B,lD 4 tB g.R,lD 4 tB g.L,lD 27 tI.sl W,lD 22 tU (Mi (narM yy0))]))
theorem e94b (g:Gr) (W:List (List Int)) (B:List (List (Int×Int))) (n:Nat) (hBl:B.length≤1000000) (hB:∀l∈B,l.length≤8796093022208∧∀x∈l,0≤x.1∧x.1<n) (fu:Nat):∀q:List Nat,q.sum<fu→Smalls q→q.length=n→checkP ⟨g,W,q⟩=0→∀b,b= !(spreadF g W B fu q).2→GetsK Tryd.prog Tryd.f94.results.toList [none] (KK r94) 0 (vb b,[],[]) 1 (stOf 95 [2,7] [slBd B,.ptr 0 0 0] [lB 73 [vi g.h,vi g.w,o0 1 g.B.length,o0 2 g.R.length,o0 3 g.L.length,o0 4 W.length,o0 5 q.length],lD 4 .bool g.B,lD 4 .bool g.R,lD 4 .bool g.L,lD 27 WT W,lD 22 (.int .u64) (Mi q)]):=by
 induction fu with
 |zero=>intro q h;omega
 |succ fu ih=>
  intro q hs hq hl hc b hb;have hns:=nar_small hc hq;have hnl:=narM_len _ hc;simp only at hnl;have hsum:(narM ⟨g,W,q⟩).sum≤q.sum:=by
   refine sum_le hnl fun c=>sub_le fun i hi=> ?_;exact(nar_given hc) c i hi
  have c60:=d60 g W q hq;simp only[narVal] at c60;cases ho:narO ⟨g,W,q⟩ with
  |false=>
   rw[ho] at c60;simp only[spreadF,ho,Bool.false_eq_true,if_false,Bool.not_false] at hb;subst hb;refine gets_vc spR (fun k=> [[1,2,7,8],[2,7],[2,7,11,12]].getD k []) (fun _=> []) 400 (.fork .stop (.hd 2)) (V:=vq43 g W B q) hmG (fun G R=>by kernel_rfl) ?_;unfold vq43;try dsimp only
   simp only[zz,Mi_take,ho,Bool.not_false];simp (disch:=omega) only[oo,oop,oq,reduceCtorEq];repeat' first|with_reducible apply And.intro|intro _|rfl|omega|assumption|trivial|(exfalso;simp_all;done)
  |true=>
   rw[ho] at c60;obtain⟨f1,f2,f3,f4⟩:=pass_facts n B (narM ⟨g,W,q⟩) 0 (fun l hl x hx=>(hB l hl).2 x hx) (by omega) hns;simp only[spreadF,ho,if_true] at hb;obtain⟨mE,stE,hE⟩:∃mE stE,passF B (narM ⟨g,W,q⟩) 0=(mE,stE):=⟨_,_,rfl⟩;rw[hE] at hb f1 f2 f3 f4;simp only at hb f1 f2 f3 f4;have hcE:checkP ⟨g,W,mE⟩=0:=by rw[again_check (p:=⟨g,W,q⟩) (by simp only;omega)];exact hc
   have hg:=e94c g W B n hBl hB b mE stE (fun e=>by rw[hb,if_pos e];rfl) (fun e=>by rw[hb,if_neg (by omega),if_neg (by omega)];rfl) (fun e=>by
    have h4:=f4 trivial e;exact ih mE (by omega) f2 f1 hcE b (by rw[hb,if_neg (by omega),if_pos e])) B.length 0 _ 0 false (by omega) (by omega) hns (by omega) (Or.inr ⟨rfl,rfl⟩) hE
   refine gets_vc spR (fun k=> [[1,2,7,8],[2,7],[2,7,11,12]].getD k []) (fun _=> []) 400 (.fork .stop (.hd 2)) (V:=vq43 g W B q) hmG (fun G R=>by kernel_rfl) ?_;unfold vq43;try dsimp only
   simp only[zz,Mi_take,ho,Bool.not_true];simp (disch:=omega) only[oo,oop,oq,reduceCtorEq];repeat' first|with_reducible apply And.intro|intro _|rfl|omega|assumption|trivial|(exfalso;simp_all;done)
def vq44 (g:Gr) (W:List (List Int)) (B:List (List (Int×Int))) (F:List (Int×Int)) (i:Int) (Q:List Nat) (G:GT) (R:RT):Prop:=let yy0:=(F.getD i.toNat tQ.dflt);let yy1:=((Mi Q).getD (0+Int.toNat yy0.fst) tU.dflt);let yy2:=(Row.box 73 [vi g.h,vi g.w,o0 1 g.B.length,o0 2 g.R.length,o0 3 g.L.length,o0 4 W.length,o0 5 Q.length]);let yy4:=(↑(bitN yy0.snd):Int);(decide (i<F.length)=true→0≤i∧i<F.length∧0≤i∧i<F.length∧(0:Int)≤yy0.fst∧yy0.fst< (↑Q.length:Int)∧0+Int.toNat yy0.fst< (Mi Q).length∧0≤i∧i<F.length∧cP 74 [] [vi yy0.snd] (D.v (Value.int .u64 yy4)) [] []∧vE yy0.snd yy0.snd∧cP 124 [] [D.v (Value.int .u64 yy1),D.v (Value.int .u64 yy4)] (D.v (Value.int .u64 (↑(Int.toNat yy1&&&yy4.toNat):Int))) [] []∧Value.int .u64 yy1=Value.int .u64 yy1∧Value.int .u64 yy4=Value.int .u64 yy4∧(0:Int)≤yy0.fst∧yy0.fst< (↑Q.length:Int)∧0+Int.toNat yy0.fst< (Mi Q).length∧sK r94 0∧G 0 (stOf 95 [1,2,7,8] [sL tQ F,sL tQ.sl B,p0,vi (IntKind.i64.wrap (i+1))] [Slot.live yy2,lD 4 tB g.B,lD 4 tB g.R,lD 4 tB g.L,lD 27 tI.sl W,lD 22 tU ((Mi Q).set (0+Int.toNat yy0.fst) (↑(Int.toNat yy1&&&yy4.toNat):Int))]))∧(decide (i<F.length)=false→sK r94 1∧G 1 (stOf 95 [2,7] [sL tQ.sl B,p0] [Slot.live yy2,lD 4 tB g.B,lD 4 tB g.R,lD 4 tB g.L,lD 27 tI.sl W,lD 22 tU (Mi Q)]))
theorem e94a (g:Gr) (W:List (List Int)) (B:List (List (Int×Int))) (F:List (Int×Int)) (QE:List Nat) (b:Bool) (hFl:F.length≤8796093022208) (hF:∀x∈F,0≤x.1∧x.1<QE.length) (hx:GetsK Tryd.prog Tryd.f94.results.toList [none] (KK r94) 0 (vb b,[],[]) 1 (stOf 95 [2,7] [slBd B,.ptr 0 0 0] [lB 73 [vi g.h,vi g.w,o0 1 g.B.length,o0 2 g.R.length,o0 3 g.L.length,o0 4 W.length,o0 5 QE.length],lD 4 .bool g.B,lD 4 .bool g.R,lD 4 .bool g.L,lD 27 WT W,lD 22 (.int .u64) (Mi QE)])) (z:Nat):∀(i:Int) (Q:List Nat),0≤i→i+z=F.length→Smalls Q→Q.length=QE.length→givenF (F.drop i.toNat) Q=QE→GetsK Tryd.prog Tryd.f94.results.toList [none] (KK r94) 0 (vb b,[],[]) 0 (stOf 95 [1,2,7,8] [slQ F,slBd B,.ptr 0 0 0,vi i] [lB 73 [vi g.h,vi g.w,o0 1 g.B.length,o0 2 g.R.length,o0 3 g.L.length,o0 4 W.length,o0 5 Q.length],lD 4 .bool g.B,lD 4 .bool g.R,lD 4 .bool g.L,lD 27 WT W,lD 22 (.int .u64) (Mi Q)]):=by
 induction z with
 |zero=>
  intro i Q i0 hi hQ hl he;rw[List.drop_eq_nil_of_le (by omega)] at he;have he:Q=QE:=he;subst he;refine gets_vc spR (fun k=> [[1,2,7,8],[2,7],[2,7,11,12]].getD k []) (fun _=> []) 400 (.fork (.hd 0) (.hd 1)) (V:=vq44 g W B F i Q) hmG (fun G R=>by kernel_rfl) ?_;unfold vq44;try dsimp only
  simp (disch:=omega) only[oo,oop,oq,reduceCtorEq];repeat' first|with_reducible apply And.intro|intro _|rfl|omega|assumption|trivial|(exfalso;simp_all;done)
 |succ z ih=>
  intro i Q i0 hi hQ hl he;have hk1:IntKind.i64.wrap (i+1)=i+1:=wrG (by omega) (by omega);have hy:=hF _ (getD_in (d:=(0,0)) (k:=i.toNat) (l:=F) (by omega));rw[drop_at (xs:=F) (i:=i) (0,0) i0 (by omega)] at he;obtain⟨x,hxx⟩:∃x,F.getD i.toNat (0,0)=x:=⟨_,rfl⟩;rw[hxx] at hy he;simp only[givenF] at he;have hs:Smalls (Q.set x.1.toNat (Q.getD x.1.toNat 0&&&ofN [x.2])):=by
   have:=given_small [x] hQ;exact this
  have h1:=ih (i+1) _ (by omega) (by omega) hs (by rw[List.length_set];exact hl) he;rw[List.length_set,ofN_one] at h1;have c1:=d130 x.2;have c2:=d127 (Q.getD x.1.toNat 0) (bitN x.2) (hQ.at _) (bitN_lt _);refine gets_vc spR (fun k=> [[1,2,7,8],[2,7],[2,7,11,12]].getD k []) (fun _=> []) 400 (.fork (.hd 0) (.hd 1)) (V:=vq44 g W B F i Q) hmG (fun G R=>by kernel_rfl) ?_;unfold vq44;try dsimp only
  simp only[Ty.dflt,hk1,hxx,zz,Mi_take];simp (disch:=omega) only[oo,oop,oq,reduceCtorEq];repeat' first|with_reducible apply And.intro|intro _|rfl|omega|assumption|trivial|(exfalso;simp_all;done)
theorem d94 (g:Gr) (W:List (List Int)) (M:List Nat) (F:List (Int×Int)) (B:List (List (Int×Int))) (hc:checkP ⟨g,W,M⟩=0) (hM:Smalls M) (hFl:F.length≤8796093022208) (hF:∀x∈F,0≤x.1∧x.1<M.length) (hBl:B.length≤1000000) (hB:∀l∈B,l.length≤8796093022208∧∀x∈l,0≤x.1∧x.1<M.length):Con Tryd.prog 94 [] [.agg (gG g [slW W,slU M]),slQ F,slBd B] (vb (!(spreadG ⟨g,W,M⟩ F B).2)) [] []:=by
 refine con_vc (how:=[none]) (c:=r94) (K:=(KK r94)) spR (fun k=> [[1,2,7,8],[2,7],[2,7,11,12]].getD k []) (fun _=> []) 400 (.hd 0) (V:=fun G R=>let yy0:=(Pr.mk g W (Nt (Mi M)));cP 53 [] [D.agg (gG yy0.g [sL tI.sl yy0.W,sL tU (Mi yy0.M)])] (D.agg [vi yy0.g.h,vi yy0.g.w,o0 0 yy0.g.B.length,o0 1 yy0.g.R.length,o0 2 yy0.g.L.length,o0 3 yy0.W.length,o0 4 yy0.M.length]) [] [Row.data 4 tB yy0.g.B,Row.data 4 tB yy0.g.R,Row.data 4 tB yy0.g.L,Row.data 27 tI.sl yy0.W,Row.data 22 tU (Mi yy0.M)]∧gS g yy0.g (W=yy0.W∧Mi M=Mi yy0.M∧sK r94 0∧G 0 (stOf 95 [1,2,7,8] [sL tQ F,sL tQ.sl B,p0,vi 0] [lB 73 [vi yy0.g.h,vi yy0.g.w,o0 1 yy0.g.B.length,o0 2 yy0.g.R.length,o0 3 yy0.g.L.length,o0 4 yy0.W.length,o0 5 yy0.M.length],lD 4 tB yy0.g.B,lD 4 tB yy0.g.R,lD 4 tB yy0.g.L,lD 27 tI.sl yy0.W,lD 22 tU (Mi yy0.M)]))) hmG Tryd.func94 (by kernel_rfl) (by kernel_rfl) (fun G R=>by kernel_rfl) ?_
 try dsimp only
 try dsimp only
 obtain⟨hf,hMl,hM0⟩:=right_fits hc hM;have hW1:=hf.W;have hw1:=hf.w;have hM1:=hf.M;simp only at hW1 hw1 hM1;have c58:=d58 g W M hf.g hW1 hw1 hM1;have hgs:=given_small F hM;have hgl:=given_len F M;have hcq:checkP ⟨g,W,givenF F M⟩=0:=by rw[again_check (p:=⟨g,W,M⟩) hgl];exact hc
 obtain⟨b,hb⟩:∃b,(!(spreadG ⟨g,W,M⟩ F B).2)=b:=⟨_,rfl⟩;rw[hb];have hg:=e94b g W B M.length hBl hB ((givenF F M).sum+1) (givenF F M) (by omega) hgs hgl hcq b hb.symm;have hx:=e94a g W B F (givenF F M) b hFl (by rw[hgl];exact hF) hg F.length 0 M (by omega) (by omega) hM hgl.symm rfl;simp only[Nt_Mi];simp (disch:=omega) only[oo,oop,oq,reduceCtorEq];repeat' first|with_reducible apply And.intro|intro _|rfl|omega|assumption|trivial|(exfalso;simp_all;done)
def spN:Sp:=fun f args rd=>match f,args with
 |160,[.v (.int _ 12)]=>some {f:=160,args:=[.v (.int .i64 12)],val:= .v (.string ⟨#[49,50]⟩)}
 |153,[.v (.int _ 12),.v (.int _ 10)]=>some {f:=153,args:=[.v (.int .i64 12),.v (.int .i64 10)],val:= .v (.string ⟨#[49,50]⟩)}
 |141,[.v (.int _ 12)]=>some {f:=141,args:=[.v (.int .i64 12)],val:= .v (.string ⟨#[49,50]⟩)}
 |112,[.v (.int _ 12)]=>some {f:=112,args:=[.v (.int .i64 12)],val:= .v (.string ⟨#[49,50]⟩)}
 |76,[.v (.int _ 12),.v (.bool true)]=>some {f:=76,args:=[.v (.int .i64 12),.v (.bool true)],val:= .v (.string ⟨#[49,50,68]⟩)}
 |36,[.agg [.v (.int _ h),.v (.int _ w),b,r,l]]=>withW rd h w b r l fun g ls=>some {f:=36,args:=[g.d],val:= .own 0 0 (slotsF g).length none,allocs:=[.data 50 SlT (slotsF g)],frz:=ls}
 |35,[]=>some {f:=35,args:=[],val:= .v (.bool true)}
 |f,args=>spSe f args rd
theorem slots_small (g:Gr):(slotsF g).length≤512:=by
 unfold slotsF;split
 ·rename_i hc;have hw:=hw_in (chk0.1 hc).1 (chk0.1 hc).2.1;have:=sl_len g (g.h*g.w).toNat 0 0;omega
 ·simp
def findC (c:Int):Int→List Int→Option Int
 |_,[]=>none
 |k,x::xs=>if x=c then some k else findC c (k+1) xs
def seatOf (d:Bool) (c:Int):Int→List (Int×Bool×List Int)→Int×Int
 |_,[]=>(-1,0)
 |s,x::ss=>match(if x.2.1=d then findC c 0 x.2.2 else none) with
  |some k=>(s,k)
  |none=>seatOf d c (s+1) ss
def spH:Sp:=fun f args rd=>match f,args with
 |82,[l,.v (.int _ i),.v (.bool d)]=>match slC rd SlT [l] with
  |some S=>some {f:=82,args:=[.sl false false SlT S,.v (.int .i64 i),.v (.bool d)],val:= .agg [.v (.int .i64 (seatOf d i 0 S).1),.v (.int .i64 (seatOf d i 0 S).2)],lent:=refsDs [l]}
  |none=>none
 |41,[.agg [.v (.int _ h),.v (.int _ w),b,r,l]]=>withW rd h w b r l fun g ls=>some {f:=41,args:=[g.d],val:= .tup [.own 0 0 (seatsF g).1.length none,.own 1 0 (seatsF g).2.length none],allocs:=[.data 61 SeT (seatsF g).1,.data 61 SeT (seatsF g).2],lent:=ls}
 |f,args=>spN f args rd
noncomputable def q82:=bd Tryd.f82
noncomputable def q41:=bd Tryd.f41
theorem find_none {c:Int}:∀{xs:List Int} {k:Int},findC c k xs=none→∀x∈xs,x≠c
 | [],_,_,x,hx=>by simp at hx
 |y::xs,k,h,x,hx=>by
  simp only[findC] at h;split at h
  ·cases h
  ·rename_i hy;rcases List.mem_cons.1 hx with rfl|hx
   ·exact hy
   ·exact find_none h x hx
theorem find_some {c:Int}:∀{xs:List Int} {k r:Int},findC c k xs=some r→∃j:Nat,r=k+j∧j<xs.length∧xs.getD j 0=c
 | [],_,_,h=>by simp[findC] at h
 |y::xs,k,r,h=>by
  simp only[findC] at h;split at h
  ·rename_i hy;simp only[sI] at h;exact⟨0,by simp[h],by simp,hy⟩
  ·obtain⟨j,a,b,e⟩:=find_some h;exact⟨j+1,by rw[a];show k+1+(j:Int)=k+((j+1:Nat):Int);omega,by simp only[List.length_cons];omega,e⟩
theorem seatOf_is {d:Bool} {c:Int}:∀(ss P:List (Int×Bool×List Int)),(∀s k s' k',Sits (P++ss) d c s k→Sits (P++ss) d c s' k'→s=s'∧k=k')→(∀s k,¬Sits P d c s k)→IsSeat (P++ss) d c (seatOf d c P.length ss)
 | [],P,_,hn=>by
  rw[List.append_nil];exact⟨fun s k h=>absurd h (hn s k),fun _=>rfl⟩
 |x::ss,P,hu,hn=>by
  have el:((P++[x]).length:Int)=P.length+1:=by simp
  simp only[seatOf];rw[List.append_cons] at hu⊢;split
  ·rename_i k hk;split at hk
   ·rename_i hd;obtain⟨j,a,b,e⟩:=find_some hk;have hs:Sits (P++[x]++ss) d c P.length j:=sits_more (sits_snoc.2 (.inr ⟨rfl,hd,b,e⟩));refine⟨fun s' k' h'=> ?_,fun h=>absurd hs (h _ _)⟩;obtain⟨p,q⟩:=hu _ _ _ _ hs h';rw[←p,←q,a];simp
   ·cases hk
  ·rename_i hk;rw[←el];refine seatOf_is ss (P++[x]) hu (fun s k h=> ?_);rcases sits_snoc.1 h with h|⟨_,hd,hl,e⟩
   ·exact hn s k h
   ·rw[if_pos hd] at hk;refine find_none hk (x.2.2.getD k 0) ?_ e;rw[gE,gQ hl];exact List.getElem_mem hl
theorem seatOf_seats {g:Gr} (hc:checkF g=0) {c:Int} (c0:0≤c):seatOf false c 0 (slotsF g)=sAt (seatsF g).1 c∧seatOf true c 0 (slotsF g)=sAt (seatsF g).2 c:=by
 have h:=seats_are hc c0;have k:∀d,IsSeat (slotsF g) d c (seatOf d c 0 (slotsF g)):=fun d=>seatOf_is (slotsF g) [] (fun _ _ _ _ a b=>sits_unique hc a b) (fun s k h=>by obtain⟨x,hx,_⟩:=h;simp at hx);exact⟨isSeat_unique (k false) h.1,isSeat_unique (k true) h.2.1⟩
def vq45 (S:List (Int×Bool×List Int)) (c:Int) (s:Int) (d:Bool) (k:Int) (G:GT) (R:RT):Prop:=let yy1:=(stOf 48 [0,1,2,6,7,8] [sL tS S,vi c,vb d,p0,vi s,vi (IntKind.i64.wrap (k+1))] [lB 61 [vi 0,vi 0]]);let yy2:=(S.getD s.toNat tS.dflt);0≤s∧s<S.length∧(decide (k< (↑(List.length yy2.snd.snd):Int))=true→0≤s∧s<S.length∧((yy2.snd.fst==d)=true→0≤s∧s<S.length∧0≤k∧k< (↑(List.length yy2.snd.snd):Int)∧((List.getD yy2.snd.snd k.toNat tI.dflt==c)=true→R (D.agg [vi s,vi k],[],[]))∧((List.getD yy2.snd.snd k.toNat tI.dflt==c)=false→sK q82 1∧G 1 yy1))∧((yy2.snd.fst==d)=false→false=false∧sK q82 1∧G 1 yy1))∧(decide (k< (↑(List.length yy2.snd.snd):Int))=false→sK q82 0∧G 0 (stOf 48 [0,1,2,6,7] [sL tS S,vi c,vb d,p0,vi (IntKind.i64.wrap (s+1))] [lB 61 [vi 0,vi 0]]))
theorem e82_1 (S:List (Int×Bool×List Int)) (c s:Int) (d:Bool) (x:Int×Bool×List Int) (r:D×List (Option Row)×List Row) (s0:0≤s) (sl:s<S.length) (hS:S.length≤600) (hx:S.getD s.toNat (Ty.dflt (.prod (.int .i64) (.prod .bool (.sl (.int .i64)))))=x) (hl:x.2.2.length≤300) (m:Nat):∀(k:Int),0≤k→k+m=x.2.2.length→
  (match(if x.2.1=d then findC c k (x.2.2.drop k.toNat) else none) with|some k'=>r=(.agg [vi (s,k').1,vi (s,k').2],[],[])|none=>GetsK Tryd.prog Tryd.f82.results.toList [none] (KK q82) 0 r 0 (stOf 48 [0,1,2,6,7] [sL SlT S,vi c,vb d,.ptr 0 0 0,vi (s+1)] [lB 61 [vi 0,vi 0]]))→GetsK Tryd.prog Tryd.f82.results.toList [none] (KK q82) 0 r 1 (stOf 48 [0,1,2,6,7,8] [sL SlT S,vi c,vb d,.ptr 0 0 0,vi s,vi k] [lB 61 [vi 0,vi 0]]):=by
 induction m with
 |zero=>
  intro k k0 km h;rw[List.drop_eq_nil_of_le (by omega)] at h;simp only[findC,ite_self] at h;refine gets_vc spH (fun k=> [[0,1,2,6,7],[0,1,2,6,7,8]].getD k []) (fun _=> []) 400 (.fork (.fork (.fork .stop (.hd 1)) (.f (.hd 1))) (.hd 0)) (V:=vq45 S c s d k) hmG (fun G R=>by kernel_rfl) ?_;unfold vq45;try dsimp only
  rw[hx];simp (disch:=omega) only[oo,oop,oq,reduceCtorEq];repeat' first|with_reducible apply And.intro|intro _|rfl|omega|assumption|trivial|(exfalso;simp_all;done)
 |succ m ih=>
  intro k k0 km h;have hd:=drop_at (xs:=x.2.2) (i:=k) (0:Int) k0 (by omega);have hi:=ih (k+1) (by omega) (by omega);rw[hd] at h;simp only[findC] at h;refine gets_vc spH (fun k=> [[0,1,2,6,7],[0,1,2,6,7,8]].getD k []) (fun _=> []) 400 (.fork (.fork (.fork .stop (.hd 1)) (.f (.hd 1))) (.hd 0)) (V:=vq45 S c s d k) hmG (fun G R=>by kernel_rfl) ?_;unfold vq45;try dsimp only
  rw[hx];simp only[Ty.dflt];by_cases h1:x.2.1=d
  ·simp only[h1,if_true] at h hi;by_cases h2:x.2.2.getD k.toNat 0=c
   ·simp only[h2,if_true] at h;subst h;simp (disch:=omega) only[oo,oop,oq,reduceCtorEq];repeat' first|with_reducible apply And.intro|intro _|rfl|omega|assumption|trivial|(exfalso;simp_all;done)
   ·simp only[h2,if_false] at h;have hj:=hi h;simp (disch:=omega) only[oo,oop,oq,reduceCtorEq];repeat' first|with_reducible apply And.intro|intro _|rfl|omega|assumption|trivial|(exfalso;simp_all;done)
  ·simp only[h1,if_false] at h hi;have hj:=hi h;simp (disch:=omega) only[oo,oop,oq,reduceCtorEq];repeat' first|with_reducible apply And.intro|intro _|rfl|omega|assumption|trivial|(exfalso;simp_all;done)
def vq46 (S:List (Int×Bool×List Int)) (c:Int) (d:Bool) (s:Int) (G:GT) (R:RT):Prop:=let yy0:=(Value.int .i64 (0:Int));(decide (s<S.length)=true→sK q82 1∧G 1 (stOf 48 [0,1,2,6,7,8] [sL tS S,vi c,vb d,p0,vi s,D.v yy0] [lB 61 [D.v yy0,D.v yy0]]))∧(decide (s<S.length)=false→R (D.agg [vi (-1),D.v yy0],[],[]))
theorem e82_0 (S:List (Int×Bool×List Int)) (c:Int) (d:Bool) (hS:S.length≤600) (hl:∀x∈S,x.2.2.length≤300) (r:D×List (Option Row)×List Row) (m:Nat):∀(s:Int),0≤s→s+m=S.length→r=(.agg [vi (seatOf d c s (S.drop s.toNat)).1,vi (seatOf d c s (S.drop s.toNat)).2],[],[])→GetsK Tryd.prog Tryd.f82.results.toList [none] (KK q82) 0 r 0 (stOf 48 [0,1,2,6,7] [sL SlT S,vi c,vb d,.ptr 0 0 0,vi s] [lB 61 [vi 0,vi 0]]):=by
 induction m with
 |zero=>
  intro s s0 sm h;rw[List.drop_eq_nil_of_le (by omega)] at h;simp only[seatOf] at h;subst h;refine gets_vc spH (fun k=> [[0,1,2,6,7],[0,1,2,6,7,8]].getD k []) (fun _=> []) 400 (.fork (.hd 1) .stop) (V:=vq46 S c d s) hmG (fun G R=>by kernel_rfl) ?_;unfold vq46;try dsimp only
  simp (disch:=omega) only[oo,oop,oq,reduceCtorEq];repeat' first|with_reducible apply And.intro|intro _|rfl|omega|assumption|trivial|(exfalso;simp_all;done)
 |succ m ih=>
  intro s s0 sm h;have hd:=drop_at (xs:=S) (i:=s) (Ty.dflt (.prod (.int .i64) (.prod .bool (.sl (.int .i64))))) s0 (by omega);have hm:S.getD s.toNat (Ty.dflt (.prod (.int .i64) (.prod .bool (.sl (.int .i64)))))∈S:=List.mem_of_mem_drop (i:=s.toNat) (by rw[hd];exact List.mem_cons_self);rw[hd] at h;have hi:=ih (s+1) (by omega) (by omega);simp only[seatOf] at h;have e1:=e82_1 S c s d _ r s0 (by omega) hS rfl (hl _ hm) _ 0 (by omega) (Int.zero_add _) (by
   simp only[show(0:Int).toNat=0 by rfl,List.drop_zero];split
   ·rename_i k' hk;rw[hk] at h;exact h
   ·rename_i hk;rw[hk] at h;exact hi h)
  refine gets_vc spH (fun k=> [[0,1,2,6,7],[0,1,2,6,7,8]].getD k []) (fun _=> []) 400 (.fork (.hd 1) .stop) (V:=vq46 S c d s) hmG (fun G R=>by kernel_rfl) ?_;unfold vq46;try dsimp only
  simp (disch:=omega) only[oo,oop,oq,reduceCtorEq];repeat' first|with_reducible apply And.intro|intro _|rfl|omega|assumption|trivial|(exfalso;simp_all;done)
theorem d82D (S:List (Int×Bool×List Int)) (c:Int) (d:Bool) (hS:S.length≤600) (hl:∀x∈S,x.2.2.length≤300):Con Tryd.prog 82 [] [sL SlT S,vi c,vb d] ((.agg [vi (seatOf d c 0 S).1,vi (seatOf d c 0 S).2])) [] []:=by
 refine con_vc (how:=[none]) (c:=q82) (K:=(KK q82)) spH (fun k=> [[0,1,2,6,7],[0,1,2,6,7,8]].getD k []) (fun _=> []) 400 (.hd 0) (V:=fun G R=>sK q82 0∧G 0 (stOf 48 [0,1,2,6,7] [sL tS S,vi c,vb d,p0,vi 0] [lB 61 [vi 0,vi 0]])) hmG Tryd.func82 (by kernel_rfl) (by kernel_rfl) (fun G R=>by kernel_rfl) ?_;try dsimp only
 have h:=e82_0 S c d hS hl _ S.length 0 (by omega) (by omega) rfl;simp only[show(0:Int).toNat=0 by rfl,List.drop_zero] at h;simp (disch:=omega) only[oo,oop,oq,reduceCtorEq];repeat' first|with_reducible apply And.intro|intro _|rfl|omega|assumption|trivial|(exfalso;simp_all;done)
theorem take_next {A:List (Int×Int)} {i:Int} (i0:0≤i) (il:i<A.length):A.take (i+1).toNat=A.take i.toNat++[sAt A i]:=by
 rw[show(i+1).toNat=i.toNat+1 by omega,List.take_add_one];unfold sAt;rw[gE,gQ (by omega)];rfl
def vq47 (g:Gr) (S:List (Int×Bool×List Int)) (i:Int) (A:List (Int×Int)) (E:List (Int×Int)) (G:GT) (R:RT):Prop:=let yy0:=(List.take S.length (List.drop 0 S));let yy2:=(seatOf false i (0:Int) yy0);let yy3:=(seatOf true i (0:Int) yy0);(decide (i<IntKind.i64.wrap (g.h*g.w))=true→cP 82 [] [sL tS yy0,vi i,vb false] (D.agg [vi yy2.fst,vi yy2.snd]) [] []∧List.take S.length (List.drop 0 S)=List.take S.length (List.drop 0 S)∧vE i i∧Value.bool false=Value.bool false∧rM 61 (A.length+1)∧cP 82 [] [sL tS yy0,vi i,vb true] (D.agg [vi yy3.fst,vi yy3.snd]) [] []∧List.take S.length (List.drop 0 S)=List.take S.length (List.drop 0 S)∧vE i i∧Value.bool true=Value.bool true∧rM 61 (E.length+1)∧sK q41 0∧G 0 (stOf 36 [1,4,5,6,7] [p0,o0 1 (A.length+1),o0 2 (E.length+1),o0 3 S.length,vi (IntKind.i64.wrap (i+1))] [lB 46 (gG g []),lD 61 tQ (List.take A.length (List.drop 0 A)++List.take 1 (List.drop 0 [(yy2.fst,yy2.snd)])),lD 61 tQ (List.take E.length (List.drop 0 E)++List.take 1 (List.drop 0 [(yy3.fst,yy3.snd)])),lD 50 tS S]))∧(decide (i<IntKind.i64.wrap (g.h*g.w))=false→R (D.tup [o0 0 A.length,o0 1 E.length],[],[Row.data 61 tQ A,Row.data 61 tQ E]))
theorem e41D (g:Gr) (hc:checkF g=0) (S:List (Int×Bool×List Int)) (hS:S=slotsF g) (hl:∀x∈S,x.2.2.length≤300) (m:Nat):∀(i:Int),0≤i→i+m=g.h*g.w→∀(A E:List (Int×Int)),A=(seatsF g).1.take i.toNat→E=(seatsF g).2.take i.toNat→GetsK Tryd.prog Tryd.f41.results.toList [none,none] (KK q41) 0 (.tup [o0 0 (seatsF g).1.length,o0 1 (seatsF g).2.length],[],[.data 61 SeT (seatsF g).1,.data 61 SeT (seatsF g).2]) 0 (stOf 36 [1,4,5,6,7] [.ptr 0 0 0,o0 1 A.length,o0 2 E.length,o0 3 S.length,vi i] [lB 46 (gG g []),lD 61 SeT A,lD 61 SeT E,lD 50 SlT S]):=by
 have hw:=hw_in (chk0.1 hc).1 (chk0.1 hc).2.1;have ew:=hw_wrap (chk0.1 hc).1 (chk0.1 hc).2.1;have sa:=seats_are hc (c:=0) (by omega);have hsm:S.length≤512:=by rw[hS];exact slots_small g
 induction m with
 |zero=>
  intro i i0 im A E hA hE;rw[List.take_of_length_le (by omega)] at hA hE;refine gets_vc spH (fun _=> [1,4,5,6,7]) (fun k=>if k=0 then [⟨4,61,SeT⟩,⟨5,61,SeT⟩] else [⟨2,61,SeT⟩,⟨3,61,SeT⟩]) 400 (.fork (.hd 0) .stop) (V:=vq47 g S i A E) hmG (fun G R=>by kernel_rfl) ?_;unfold vq47;try dsimp only
  subst hA hE;rw[ew];simp (disch:=omega) only[oo,oop,oq,reduceCtorEq];repeat' first|with_reducible apply And.intro|intro _|rfl|omega|assumption|trivial|(exfalso;simp_all;done)
 |succ m ih=>
  intro i i0 im A E hA hE;have so:=seatOf_seats hc i0;rw[←hS] at so;have cA:=d82D S i false (by omega) hl;have cE:=d82D S i true (by omega) hl;rw[so.1] at cA;rw[so.2] at cE;have hx:=ih (i+1) (by omega) (by omega) (A++[sAt (seatsF g).1 i]) (E++[sAt (seatsF g).2 i]) (by rw[hA,take_next i0 (by omega)]) (by rw[hE,take_next i0 (by omega)]);simp only[List.length_append,List.length_cons,List.length_nil,Nat.zero_add] at hx;have lA:A.length≤300:=by rw[hA,List.length_take];omega
  have lE:E.length≤300:=by rw[hE,List.length_take];omega
  refine gets_vc spH (fun _=> [1,4,5,6,7]) (fun k=>if k=0 then [⟨4,61,SeT⟩,⟨5,61,SeT⟩] else [⟨2,61,SeT⟩,⟨3,61,SeT⟩]) 400 (.fork (.hd 0) .stop) (V:=vq47 g S i A E) hmG (fun G R=>by kernel_rfl) ?_;unfold vq47;try dsimp only
  simp only[ew,take_len,so.1,so.2];simp (disch:=omega) only[oo,oop,oq,reduceCtorEq];repeat' first|with_reducible apply And.intro|intro _|rfl|omega|assumption|trivial|exact room104 (by omega)|(exfalso;simp_all;done)
theorem d41D (g:Gr):Con Tryd.prog 41 [] [g.d] ((.tup [o0 0 (seatsF g).1.length,o0 1 (seatsF g).2.length])) [] [.data 61 SeT (seatsF g).1,.data 61 SeT (seatsF g).2]:=by
 refine con_vc (how:=[none,none]) (c:=q41) (K:=(KK q41)) spH (fun _=> [1,4,5,6,7]) (fun k=>if k=0 then [⟨4,61,SeT⟩,⟨5,61,SeT⟩] else [⟨2,61,SeT⟩,⟨3,61,SeT⟩]) 400 (.fork .stop (.hd 0)) (V:=fun G R=>cP 80 [] [D.agg (gG g [])] (vi (checkF g)) [] []∧gS g g (((checkF g !=0)=true→R (D.tup [o0 0 0,o0 1 0],[],[Row.data 61 tQ [],Row.data 61 tQ []]))∧((checkF g !=0)=false→cP 38 [] [D.agg (gG g [])] (o0 0 (slotsF g).length) [] [Row.data 50 tS (slotsF g)]∧gS g g (sK q41 0∧G 0 (stOf 36 [1,4,5,6,7] [p0,o0 1 0,o0 2 0,o0 3 (slotsF g).length,vi 0] [lB 46 (gG g []),lD 61 tQ [],lD 61 tQ [],lD 50 tS (slotsF g)]))))) hmG Tryd.func41 (by kernel_rfl) (by kernel_rfl) (fun G R=>by kernel_rfl) ?_;try dsimp only
 try dsimp only
 have c:=d44 g;have c2:=d100 g;by_cases hc:checkF g=0
 ·have hw:=hw_in (chk0.1 hc).1 (chk0.1 hc).2.1;have hx:=e41D g hc (slotsF g) rfl (fun x hx=>by
   have es:slotsF g=slotsFrom g (g.h*g.w).toNat 0 0:=if_pos hc;rw[es] at hx;have:=(slots_open _ _ _ x hx).1;omega) (g.h*g.w).toNat 0 (by omega) (by omega) [] [] (by simp) (by simp)
  rw[hc] at c⊢;simp (disch:=omega) only[oo,oop,oq,reduceCtorEq];repeat' first|with_reducible apply And.intro|intro _|rfl|omega|assumption|trivial|(exfalso;simp_all;done)
 ·have e:seatsF g=([],[]):=if_neg hc;rw[e];simp (disch:=omega) only[oo,oop,oq,reduceCtorEq];repeat' first|with_reducible apply And.intro|intro _|rfl|omega|assumption|trivial|(exfalso;simp_all;done)
def pairOk (A E:List (Int×Int)) (x:Int×Int):Bool:=decide (0≤x.1∧x.1<A.length∧0≤x.2∧x.2≤63)&&(decide (0≤(A.getD x.1.toNat (0,0)).1)||decide (0≤(E.getD x.1.toNat (0,0)).1))
def oddP (A E:List (Int×Int)) (x:Int×Int):Bool:= !pairOk A E x
def findP (f:Int×Int→Bool):Int→List (Int×Int)→Int
 |_,[]=> -1
 |k,x::xs=>if f x then k else findP f (k+1) xs
theorem findP_any (f:Int×Int→Bool):∀(l:List (Int×Int)) (k:Int),0≤k→decide (findP f k l≥0)=l.any f
 | [],k,_=>rfl
 |x::xs,k,h=>by
  rw[List.any_cons];by_cases hf:f x=true
  ·have e:findP f k (x::xs)=k:=by simp only[findP,hf,if_true]
   rw[e,hf,Bool.true_or];exact decide_eq_true h
  ·have hf':f x=false:=by simpa using hf
   have e:findP f k (x::xs)=findP f (k+1) xs:=by simp only[findP,hf',Bool.false_eq_true,if_false]
   rw[e,hf',Bool.false_or];exact findP_any f xs (k+1) (by omega)
abbrev oddD (A E:List (Int×Int)):D:= .fn 90 [.rptr [slQ A],.rptr [slQ E]]
def checkN (p:Pr) (A E:List (Int×Int)) (B:List (List (Int×Int))):Nat→Int→Int×Int
 |0,_=>if B=[] then(0,151) else if(B.getD (B.length-1) []).length>0 then((B.length:Int),151) else(0,0)
 |z+1,i=>if(B.getD i.toNat []).any (oddP A E) then(i,150) else if(spreadG p (B.getD i.toNat []) (B.take i.toNat)).2 then(i,151) else checkN p A E B z (i+1)
def checkR (p:Pr) (B:List (List (Int×Int))):Int×Int:=if checkP p=0 then(if(B.length:Int)>65000 then(0,2) else checkN p (seatsF p.g).1 (seatsF p.g).2 B B.length 0) else(0,checkP p)
def spS:Sp:=fun f args rd=>match f,args with
 |93,[a,e,.agg [.v (.int _ c),.v (.int _ y)]]=>match slC rd SeT [a],slC rd SeT [e] with
  |some A,some E=>some {f:=93,args:=[slQ A,slQ E,.agg [.v (.int .i64 c),.v (.int .i64 y)]],val:= .v (.bool (pairOk A E (c,y))),lent:=refsDs [a,e]}
  |_,_=>none
 |90,[.agg [.v (.int _ c),.v (.int _ y)],.rptr [a],.rptr [e]]=>match slC rd SeT [a],slC rd SeT [e] with
  |some A,some E=>some {f:=90,args:=[.agg [.v (.int .i64 c),.v (.int .i64 y)],.rptr [slQ A],.rptr [slQ E]],val:= .v (.bool (oddP A E (c,y)))}
  |_,_=>none
 |121,[l,.fn 90 [.rptr [a],.rptr [e]]]=>match slC rd SeT [l],slC rd SeT [a],slC rd SeT [e] with
  |some L,some A,some E=>some {f:=121,args:=[slQ L,oddD A E],val:= .v (.int .i64 (findP (oddP A E) 0 L)),lent:=refsDs [l]}
  |_,_,_=>none
 |91,[l,.fn 90 [.ptr b1 _ _,.ptr b2 _ _]]=>match rd b1,rd b2 with
  |some (.box _ [a]),some (.box _ [e])=>match slC rd SeT [l],slC rd SeT [a],slC rd SeT [e] with
   |some L,some A,some E=>some {f:=91,args:=[slQ L,oddD A E],val:= .v (.bool (L.any (oddP A E))),lent:=b1::b2::refsDs [l,a,e]}
   |_,_,_=>none
  |_,_=>none
 |40,[.agg [.v (.int _ h),.v (.int _ w),b,r,l]]=>withW rd h w b r l fun g ls=>some {f:=40,args:=[g.d],val:= .tup [.own 0 0 (seatsF g).1.length none,.own 1 0 (seatsF g).2.length none],allocs:=[.data 61 SeT (seatsF g).1,.data 61 SeT (seatsF g).2],lent:=ls}
 |41,[.agg [.v (.int _ h),.v (.int _ w),b,r,l]]=>withW rd h w b r l fun g ls=>some {f:=41,args:=[g.d],val:= .tup [.own 0 0 (seatsF g).1.length none,.own 1 0 (seatsF g).2.length none],allocs:=[.data 61 SeT (seatsF g).1,.data 61 SeT (seatsF g).2],lent:=ls}
 |f,args=>spR f args rd
noncomputable def r121:=bd Tryd.f121
noncomputable def r91:=bd Tryd.f91
def wlayF (M:List Nat) (f:List Int):List Int→List Int→List Int→Option (List Int)
 | [],[],g=>some g
 |c::cs,x::ws,g=>if(decide (f.getD c.toNat 0≥0)&&f.getD c.toNat 0 !=x)|| !hasN (M.getD c.toNat 0) x then none else wlayF M f cs ws (g.set c.toNat x)
 |_,_,_=>none
def loopD (rec:List Int→List (List Int)×Int→List (List Int)×Int) (M:List Nat) (C f:List Int):List (List Int)→List (List Int)×Int→List (List Int)×Int
 | [],q=>q
 |w::ws,q=>if q.2≤4000 then loopD rec M C f ws (match wlayF M f C w f with|some g=>rec g q|none=>q) else q
def downF (M:List Nat) (W:List (List Int)):List Slt→List Int→List (List Int)×Int→List (List Int)×Int
 | [],f,q=>(q.1++[f],q.2+1)
 |s::ss,f,q=>loopD (downF M W ss) M s.2.2 f W (q.1,q.2+1)
def diffF:List (List Int)→List (List Int)→List (List Int)
 |acc,[]=>acc
 |acc,w::ws=>diffF (if acc.any (fun v=>decide (v=w)) then acc else acc++[w]) ws
def smallF (p:Pr):List (List Int)×Int:=downF p.M (diffF [] p.W) (slotsF p.g) (List.replicate p.M.length (-1)) ([],0)
theorem diff_sub:∀(ws acc:List (List Int)),∀w∈diffF acc ws,w∈acc∨w∈ws
 | [],acc,w,h=>Or.inl h
 |v::ws,acc,w,h=>by
  simp only[diffF] at h;rcases diff_sub ws _ w h with h|h
  ·split at h
   ·exact Or.inl h
   ·rcases List.mem_append.1 h with h|h
    ·exact Or.inl h
    ·exact Or.inr (by rw[List.mem_singleton.1 h];exact List.mem_cons_self)
  ·exact Or.inr (List.mem_cons_of_mem _ h)
theorem diff_len:∀(ws acc:List (List Int)),(diffF acc ws).length≤acc.length+ws.length
 | [],acc=>by simp[diffF]
 |v::ws,acc=>by
  simp only[diffF];refine Nat.le_trans (diff_len ws _) ?_;split
  ·simp
  ·simp only[List.length_append,List.length_cons,List.length_nil];omega
theorem getD_setI (l:List Int) (c:Nat) (v:Int) (d:Nat) (e:Int):(l.set c v).getD d e=if c=d∧c<l.length then v else l.getD d e:=getD_set_gen e l c v d
theorem laid_some {M:List Nat} {f:List Int}:∀{cs w g h:List Int},wlayF M f cs w g=some h→(cs.map Int.toNat).Nodup→(∀c∈cs,c.toNat<g.length)→
  w.length=cs.length∧h.length=g.length∧(∀j,j∉cs.map Int.toNat→h.getD j (-1)=g.getD j (-1))∧(cs.map fun c=>h.getD c.toNat (-1))=w∧
  ∀c∈cs,hasN (M.getD c.toNat 0) (h.getD c.toNat (-1))=true∧(0≤f.getD c.toNat 0→h.getD c.toNat (-1)=f.getD c.toNat 0)
 | [],[],g,h,e,_,_=>by
  simp only[wlayF,sI] at e;subst e;exact⟨rfl,rfl,fun _ _=>rfl,rfl,fun c hc=>by simp at hc⟩
 | [],_::_,_,_,e,_,_=>by simp[wlayF] at e
 |_::_,[],_,_,e,_,_=>by simp[wlayF] at e
 |c::cs,x::ws,g,h,e,hn,hr=>by
  simp only[wlayF] at e;split at e
  ·cases e
  ·rename_i hb;simp only[Bool.or_eq_true,Bool.and_eq_true,decide_eq_true_eq,bne_iff_ne,ne_eq,Bool.not_eq_true',not_or,not_and,Decidable.not_not,Bool.not_eq_false] at hb;rw[List.map_cons,List.nodup_cons] at hn;obtain⟨h1,h2,h3,h4,h5⟩:=laid_some e hn.2 (fun z hz=>by rw[List.length_set];exact hr z (List.mem_cons_of_mem _ hz));have hc:h.getD c.toNat (-1)=x:=by rw[h3 _ hn.1,getD_setI,if_pos ⟨rfl,hr c List.mem_cons_self⟩]
   refine⟨by simp[h1],by rw[h2,List.length_set],fun j hj=> ?_,by rw[List.map_cons,hc,h4],fun z hz=> ?_⟩
   ·rw[List.map_cons,List.mem_cons,not_or] at hj;rw[h3 _ hj.2,getD_setI,if_neg (fun e=>hj.1 e.1.symm)]
   ·rcases List.mem_cons.1 hz with hz|hz
    ·subst hz;rw[hc];exact⟨hb.2,fun h0=>(hb.1 h0).symm⟩
    ·exact h5 z hz
theorem wlay_len {M:List Nat} {f:List Int}:∀{cs w g h:List Int},wlayF M f cs w g=some h→w.length=cs.length
 | [],[],_,_,_=>rfl
 | [],_::_,_,_,e=>by simp[wlayF] at e
 |_::_,[],_,_,e=>by simp[wlayF] at e
 |c::cs,x::ws,g,h,e=>by
  simp only[wlayF] at e;split at e
  ·cases e
  ·rw[List.length_cons,List.length_cons,wlay_len e]
theorem wlay_len2 {M:List Nat} {f:List Int}:∀{cs w g h:List Int},wlayF M f cs w g=some h→h.length=g.length
 | [],[],_,_,e=>by
  simp only[wlayF,sI] at e;rw[e]
 | [],_::_,_,_,e=>by simp[wlayF] at e
 |_::_,[],_,_,e=>by simp[wlayF] at e
 |c::cs,x::ws,g,h,e=>by
  simp only[wlayF] at e;split at e
  ·cases e
  ·rw[wlay_len2 e,List.length_set]
structure Fil (p:Pr) (S:List Slt) (f:List Int):Prop where
 len:f.length=p.M.length
 low:∀c,0≤f.getD c (-1)→hasN (p.M.getD c 0) (f.getD c (-1))=true∧seatedB (slotsF p.g) c=true
 word:∀s∈S,(s.2.2.map fun c=>f.getD c.toNat (-1))∈p.W
 here:∀s∈S,∀c∈s.2.2,0≤f.getD c.toNat (-1)
theorem once_nodup {s:Slt} (h:OnceS s):(s.2.2.map Int.toNat).Nodup:=by
 rw[List.nodup_iff_pairwise_ne,List.pairwise_iff_getElem];intro i j hi hj hij e;rw[List.length_map] at hi hj;rw[List.getElem_map,List.getElem_map] at e;have:=h i j _ _ (gQ hi) (gQ hj) e;omega
theorem seated_of {S:List Slt} {s:Slt} {c:Int} (hs:s∈S) (hc:c∈s.2.2):seatedB S c.toNat=true:=by
 unfold seatedB;rw[List.any_eq_true];exact⟨s,hs,by rw[List.any_eq_true];exact⟨c,hc,beq_self_eq_true _⟩⟩
theorem cells_in {p:Pr} (hc:checkP p=0) {s:Slt} (hs:s∈slotsF p.g):∀c∈s.2.2,0≤c∧c.toNat<p.M.length:=by
 intro c h;have h1:=slots_in (checkP_zero hc).1 s hs c h;have h2:=(checkP_zero hc).2.2.2;omega
theorem getD_eqd {l:List Int} {j:Nat} (h:j<l.length) (d e:Int):l.getD j d=l.getD j e:=by
 rw[gE,gE,gQ h];rfl
theorem Fil.lay {p:Pr} (hc:checkP p=0) {P:List Slt} {s:Slt} {f g w:List Int} (F:Fil p P f) (hP:∀x∈P,x∈slotsF p.g) (hs:s∈slotsF p.g) (hw:w∈p.W) (e:wlayF p.M f s.2.2 w f=some g):Fil p (P++[s]) g:=by
 have hci:=cells_in hc hs;obtain⟨h1,h2,h3,h4,h5⟩:=laid_some e (once_nodup (once_slot (checkP_zero hc).1 hs)) (fun c h=>by rw[F.len];exact(hci c h).2);have ext:∀j,0≤f.getD j (-1)→g.getD j (-1)=f.getD j (-1):=by
  intro j hj;by_cases hm:j∈s.2.2.map Int.toNat
  ·obtain⟨c,hcs,rfl⟩:=List.mem_map.1 hm;have hl:=(hci c hcs).2;rw[←F.len] at hl;rw[getD_eqd hl (-1) 0] at hj⊢;exact(h5 c hcs).2 hj
  ·exact h3 j hm
 refine⟨by rw[h2,F.len],fun c h0=> ?_,fun x hx=> ?_,fun x hx c hcx=> ?_⟩
 ·by_cases hm:c∈s.2.2.map Int.toNat
  ·obtain⟨z,hz,rfl⟩:=List.mem_map.1 hm;exact⟨(h5 z hz).1,seated_of hs hz⟩
  ·rw[h3 c hm] at h0⊢;exact F.low c h0
 ·rcases List.mem_append.1 hx with hx|hx
  ·have e1:(x.2.2.map fun c=>g.getD c.toNat (-1))=x.2.2.map fun c=>f.getD c.toNat (-1):=List.map_congr_left fun c hcx=>ext _ (F.here x hx c hcx);rw[e1];exact F.word x hx
  ·rw[List.mem_singleton.1 hx,h4];exact hw
 ·rcases List.mem_append.1 hx with hx|hx
  ·rw[ext _ (F.here x hx c hcx)];exact F.here x hx c hcx
  ·rw[List.mem_singleton.1 hx] at hcx;exact(has_lt (h5 c hcx).1).1
theorem loop_ind {rec:List Int→List (List Int)×Int→List (List Int)×Int} {M:List Nat} {C f:List Int} {I:List (List Int)×Int→Prop}:∀(W:List (List Int)),(∀w∈W,∀g q,wlayF M f C w f=some g→q.2≤4000→I q→I (rec g q))→∀q,I q→I (loopD rec M C f W q)
 | [],_,q,h=>h
 |w::ws,hr,q,h=>by
  simp only[loopD];split
  ·rename_i hq;refine loop_ind ws (fun v hv=>hr v (List.mem_cons_of_mem _ hv)) _ ?_;cases hl:wlayF M f C w f with
   |none=>exact h
   |some g=>exact hr w List.mem_cons_self g q hl hq h
  ·exact h
theorem down_fil {p:Pr} (hc:checkP p=0) {W':List (List Int)} (hW:∀w∈W',w∈p.W):∀(ss P:List Slt),P++ss=slotsF p.g→∀f q,Fil p P f→(∀x∈q.1,Fil p (slotsF p.g) x)→∀x∈(downF p.M W' ss f q).1,Fil p (slotsF p.g) x
 | [],P,hP,f,q,F,hq,x,hx=>by
  simp only[downF] at hx;rcases List.mem_append.1 hx with hx|hx
  ·exact hq x hx
  ·rw[List.mem_singleton.1 hx,←hP,List.append_nil];exact F
 |s::ss,P,hP,f,q,F,hq,x,hx=>by
  simp only[downF] at hx;refine loop_ind (I:=fun q=>∀x∈q.1,Fil p (slotsF p.g) x) W' (fun w hw g q' hl _ hI=> ?_) (q.1,q.2+1) hq x hx;refine down_fil hc hW ss (P++[s]) (by rw[←hP,List.append_assoc];rfl) g q' (F.lay hc (fun y hy=>by rw[←hP];exact List.mem_append_left _ hy) (by rw[←hP];exact List.mem_append_right _ List.mem_cons_self) (hW w hw) hl) hI
theorem fil_start (p:Pr):Fil p [] (List.replicate p.M.length (-1)):=by
 refine⟨List.length_replicate,fun c h=> ?_,fun s hs=>by simp at hs,fun s hs=>by simp at hs⟩;rw[gE,List.getElem?_replicate] at h;split at h<;>simp at h
theorem small_fil {p:Pr} (hc:checkP p=0):∀f∈(smallF p).1,Fil p (slotsF p.g) f:=
 down_fil hc (fun w hw=>by
  rcases diff_sub p.W [] w hw with h|h
  ·simp at h
  ·exact h) (slotsF p.g) [] rfl _ _ (fil_start p) (fun x hx=>by simp at hx)
theorem down_le (M:List Nat) (W:List (List Int)):∀(ss:List Slt) (f:List Int) (q:List (List Int)×Int),0≤q.2→q.2≤4000→(q.1.length:Int)≤q.2→q.2≤(downF M W ss f q).2∧(downF M W ss f q).2≤4001∧((downF M W ss f q).1.length:Int)≤(downF M W ss f q).2
 | [],f,q,h0,h1,h2=>by
  simp only[downF,List.length_append,List.length_cons,List.length_nil];omega
 |s::ss,f,q,h0,h1,h2=>by
  simp only[downF];have:=loop_ind (rec:=downF M W ss) (M:=M) (C:=s.2.2) (f:=f) (I:=fun r=>q.2≤r.2∧r.2≤4001∧(r.1.length:Int)≤r.2) W (fun w _ g r _ hr hI=>by
   have:=down_le M W ss g r (by omega) hr hI.2.2;exact⟨by omega,this.2.1,this.2.2⟩) (q.1,q.2+1) (by simp only;omega)
  exact this
theorem fil_picked {p:Pr} {f:List Int} (F:Fil p (slotsF p.g) f) {q:List Nat} (hq:q.length=p.M.length) (hl:Leq (letM f) q):Picked ⟨p.g,p.W,q⟩ ((slotsF p.g).map fun s=>((p.W.idxOf (s.2.2.map fun c=>f.getD c.toNat (-1)):Nat):Int)) (slotsF p.g).length f:=by
 have key:∀s,s< (slotsF p.g).length→sAtN (slotsF p.g) s∈slotsF p.g∧(((slotsF p.g).map fun s=>((p.W.idxOf (s.2.2.map fun c=>f.getD c.toNat (-1)):Nat):Int)).getD s 0)=((p.W.idxOf ((sAtN (slotsF p.g) s).2.2.map fun c=>f.getD c.toNat (-1)):Nat):Int):=by
  intro s hs;refine⟨getD_in hs,?_⟩;rw[gE,List.getElem?_map,gQ hs];simp only[Option.map_some,Option.getD_some,sAtN,gE,gQ hs]
 have wd:∀w∈p.W,wordAt p.W ((p.W.idxOf w:Nat):Int)=w:=by
  intro w hw;have:=List.idxOf_lt_length_of_mem hw;unfold wordAt;rw[Int.toNat_natCast,gE,gQ this,Option.getD_some,List.getElem_idxOf]
 refine⟨by rw[F.len,hq],fun c h0=> ?_,fun s hs=> ?_,fun s hs j x hx=> ?_⟩
 ·have h1:=F.low c h0;have h2:=has_lt h1.1;exact⟨has_bit.2 ⟨h2.1,h2.2,hl c _ (letM_has rfl h2.1 h2.2)⟩,h1.2⟩
 ·obtain⟨k1,k2⟩:=key s hs;have hm:=F.word _ k1;rw[k2];refine⟨by omega,?_,?_⟩
  ·have:=List.idxOf_lt_length_of_mem hm;simp only;omega
  ·simp only;rw[wd _ hm,List.length_map]
 ·obtain⟨k1,k2⟩:=key s hs;have hm:=F.word _ k1;rw[k2];simp only;rw[wd _ hm,gE (l:=List.map _ _),List.getElem?_map,hx];exact⟨rfl,F.here _ k1 x (List.mem_of_getElem? hx)⟩
theorem bit_of_one {y:Int} {i:Nat} (h:(bitN y).testBit i=true):y=(i:Int):=by
 unfold bitN at h;split at h
 ·simp at h
 ·rename_i hy;rw[Nat.testBit_two_pow] at h;have:=of_decide_eq_true h;omega
theorem sub_bit {v:Nat} {y:Int} (h:hasN v y=true) {i:Nat} (hi:v.testBit i=true) (ne:y≠(i:Int)):(v-bitN y).testBit i=true:=by
 have hy:=has_lt h;unfold hasN at h;simp only[Bool.and_eq_true,decide_eq_true_eq] at h;have hb:bitN y=2^y.toNat:=by unfold bitN;rw[if_neg (by omega)]
 have h1:(v^^^2^y.toNat).testBit y.toNat=false:=by
  rw[Nat.testBit_xor,h.2.2,Nat.testBit_two_pow_self];rfl
 have h2:(v^^^2^y.toNat)+2^y.toNat=v:=by
  rw[add_or h1];apply Nat.eq_of_testBit_eq;intro k;rw[Nat.testBit_or,Nat.testBit_xor,Nat.testBit_two_pow];by_cases e:y.toNat=k
  ·subst e;rw[h.2.2];simp
  ·rw[decide_eq_false e];simp
 rw[hb,show v-2^y.toNat=v^^^2^y.toNat by omega,Nat.testBit_xor,hi,Nat.testBit_two_pow,decide_eq_false (by omega)];rfl
def Sat (f:List Int) (l:List (Int×Int)):Prop:=∀x∈l,f.getD x.1.toNat (-1)=x.2
structure Clo (p:Pr) (B:List (List (Int×Int))) (R:List Nat):Prop where
 len:R.length=p.M.length
 st:Stable p.W (slotsF p.g) R
 lo:Leq R (m0F p)
 ok:okF (slotsF p.g) R (wordsF p.W (slotsF p.g) R)=true
 no:∀l∈B,(unitF R l).1=0
def Seated (S:List Slt) (B:List (List (Int×Int))):Prop:=∀l∈B,∀x∈l,seatedB S x.1.toNat=true
theorem ok_cell {S:List Slt} {m:List Nat} {ws:List (List Int)} (h:okF S m ws=true) {c:Nat} (hs:seatedB S c=true):m.getD c 0≠0:=by
 unfold okF at h;rw[Bool.and_eq_true,List.all_eq_true,List.all_eq_true] at h;unfold seatedB at hs;rw[List.any_eq_true] at hs;obtain⟨s,hs1,hs2⟩:=hs;rw[List.any_eq_true] at hs2;obtain⟨z,hz1,hz2⟩:=hs2;have h1:=List.all_eq_true.1 (h.2 s hs1) z hz1;rw[beq_iff_eq] at hz2;rw[hz2] at h1;simpa using h1
theorem m0_most {g:Gr} {W:List (List Int)} {M q R:List Nat} (hq:q.length=M.length) (h:Leq R (m0F ⟨g,W,M⟩)) (h2:Leq R q):Leq R (m0F ⟨g,W,q⟩):=by
 intro c i hi;have h1:=h c i hi;have hc:c<M.length:=by have:=bit_lt h1;rwa [m0_len] at this
 unfold bitAt at h1⊢;rw[m0_get (p:=⟨g,W,M⟩) hc] at h1;rw[m0_get (p:=⟨g,W,q⟩) (by simpa only[hq] using hc)];simp only at h1⊢;split at h1
 ·rename_i hs;rw[if_pos hs];exact h2 c i hi
 ·simp at h1
theorem clo_nar {p:Pr} (hc:checkP p=0) {B:List (List (Int×Int))} {R:List Nat} (h:Clo p B R) {q:List Nat} (hq:q.length=p.M.length) (hl:Leq R q):Leq R (narM ⟨p.g,p.W,q⟩)∧narO ⟨p.g,p.W,q⟩=true:=by
 have hR:checkP ⟨p.g,p.W,R⟩=0:=by rw[again_check h.len];exact hc
 have hQ:checkP ⟨p.g,p.W,q⟩=0:=by rw[again_check hq];exact hc
 have k:∀{r:List Nat},r.length=p.M.length→checkP ⟨p.g,p.W,r⟩=0→Leq R r→Leq R (narM ⟨p.g,p.W,r⟩):=fun hr hk hl=>by
  rw[narM_eq hk];exact gfp_most _ _ _ h.st (m0_most hr h.lo hl)
 refine⟨k hq hQ hl,narO_mono hQ (M':=R) (by rw[hq];exact h.len) hl ?_⟩;have e:narM ⟨p.g,p.W,R⟩=R:=leq_antisymm (by rw[narM_len _ hR]) (nar_given hR) (k h.len hR (Leq.refl R));rw[narO_eq hR,narW_eq hR,e];exact h.ok
theorem bit_at {m:List Nat} {x:Int×Int} (h:hereB m x=true):bitAt m x.1.toNat x.2.toNat:=(has_bit.1 h).2.2
theorem stand_down {R m:List Nat} (hl:Leq R m) {x:Int×Int} (h0:R.getD x.1.toNat 0≠0) (hh:hereB m x=true) (ho:openB m x=false):hereB R x=true∧openB R x=false:=by
 unfold openB at ho⊢;rw[bne_eq_false_iff_eq] at ho⊢;have hx:=has_lt hh;have e:R.getD x.1.toNat 0=bitN x.2:=by
  have hb:bitN x.2=2^x.2.toNat:=by unfold bitN;rw[if_neg (by omega)]
  have one:∀i,(R.getD x.1.toNat 0).testBit i=true→x.2=(i:Int):=fun i hi=>by
   have:=hl _ i hi;unfold bitAt at this;rw[ho] at this;exact bit_of_one this
  obtain⟨t,ht⟩:=min_bit _ h0;have e1:=one t ht.1;apply Nat.eq_of_testBit_eq;intro i;rw[hb,Nat.testBit_two_pow];by_cases e2:x.2.toNat=i
  ·subst e2;rw[decide_eq_true rfl,show x.2.toNat=t by omega];exact ht.1
  ·rw[decide_eq_false e2];cases hi:(R.getD x.1.toNat 0).testBit i with
   |false=>rfl
   |true=>
    have:=one i hi;omega
 refine⟨has_bit.2 ⟨hx.1,hx.2,?_⟩,e⟩;unfold bitAt;rw[e];unfold bitN;rw[if_neg (by omega),Nat.testBit_two_pow_self]
theorem unit_down {R m:List Nat} (hl:Leq R m) {l:List (Int×Int)} (h0:∀x∈l,R.getD x.1.toNat 0≠0) (hn:(unitF R l).1=0):(unitF m l).1≠2∧((unitF m l).1=1→hereB R (unitF m l).2=false):=by
 have all0:∀y:Int×Int,(∀x∈l,hereB R x=true∧(openB R x=true→x=y))→False:=fun y h=>by
  unfold unitF at hn;rw[if_pos (List.all_eq_true.2 fun x hx=>(h x hx).1),oneF_all] at hn;split at hn
  ·cases hn
  ·rename_i hf;have hm:∀x∈l.filter (openB R),x=y:=fun x hx=>(h x (List.mem_filter.1 hx).1).2 (List.mem_filter.1 hx).2;rw[if_pos] at hn
   ·cases hn
   ·refine List.all_eq_true.2 fun x hx=> ?_;rw[beq_iff_eq,hm x hx,hm _ (getD_in (List.length_pos_iff.2 hf))]
 unfold unitF;split
 ·rename_i ha;have here:∀x∈l,hereB m x=true:=List.all_eq_true.1 ha;cases hf:l.filter (openB m) with
  |nil=>
   refine absurd (fun x hx=> ?_) (all0 (0,0));have ho:openB m x=false:=by
    cases e:openB m x with
    |false=>rfl
    |true=>
     have:x∈l.filter (openB m):=List.mem_filter.2 ⟨hx,e⟩;rw[hf] at this;simp at this
   obtain⟨a,b⟩:=stand_down hl (h0 x hx) (here x hx) ho;exact⟨a,fun e=>by rw[b] at e;cases e⟩
  |cons a rest=>
   simp only[oneF];split
   ·rename_i h1;refine⟨by simp,fun _=> ?_⟩;cases hr:hereB R a with
    |false=>rfl
    |true=>
     refine absurd (fun x hx=> ?_) (all0 a);cases ho:openB m x with
     |false=>
      obtain⟨c,d⟩:=stand_down hl (h0 x hx) (here x hx) ho;exact⟨c,fun e=>by rw[d] at e;cases e⟩
     |true=>
      have hm:x∈l.filter (openB m):=List.mem_filter.2 ⟨hx,ho⟩;have e:x=a:=by
       rw[hf] at hm;rcases List.mem_cons.1 hm with e|hm
       ·exact e
       ·have:=List.all_eq_true.1 h1 x hm;exact beq_iff_eq.1 this
      rw[e];exact⟨hr,fun _=>rfl⟩
   ·exact⟨by simp,fun h=>by simp at h⟩
 ·exact⟨by simp,fun h=>by simp at h⟩
theorem letgo_leq {R m:List Nat} {x:Int×Int} (hl:Leq R m) (hh:hereB m x=true) (hn:hereB R x=false):Leq R (letgo m x):=by
 intro c i hi;have h1:=hl c i hi;unfold bitAt letgo;rw[getD_set_nat];split
 ·rename_i e;rw[e.1];refine sub_bit (by rw[←e.1];exact hh) h1 fun e2=> ?_;have:=has_lt hh;rw[show hereB R x=true from has_bit.2 ⟨this.1,this.2,by rw[e.1,e2,Int.toNat_natCast];exact hi⟩] at hn;cases hn
 ·exact h1
theorem pass_clo {R:List Nat}:∀(B:List (List (Int×Int))) (m:List Nat) (st:Int),(∀l∈B,(∀x∈l,R.getD x.1.toNat 0≠0)∧(unitF R l).1=0)→Leq R m→st≠2→(passF B m st).2≠2∧Leq R (passF B m st).1
 | [],m,st,_,hl,h=>⟨h,hl⟩
 |l::ls,m,st,hB,hl,h=>by
  obtain⟨u1,u2⟩:=unit_down hl (hB l List.mem_cons_self).1 (hB l List.mem_cons_self).2;rw[pass_cons,if_neg u1];split
  ·rename_i e;exact pass_clo ls _ 1 (fun x hx=>hB x (List.mem_cons_of_mem _ hx)) (letgo_leq hl (unit_one e).2 (u2 e)) (by decide)
  ·exact pass_clo ls m st (fun x hx=>hB x (List.mem_cons_of_mem _ hx)) hl h
theorem pass_len:∀(B:List (List (Int×Int))) (m:List Nat) (st:Int),(passF B m st).1.length=m.length
 | [],m,st=>rfl
 |l::ls,m,st=>by
  rw[pass_cons];split
  ·rfl
  ·split
   ·rw[pass_len ls,letgo_len]
   ·exact pass_len ls m st
theorem clo_spread {p:Pr} (hc:checkP p=0) {B:List (List (Int×Int))} {R:List Nat} (h:Clo p B R) (hs:Seated (slotsF p.g) B):∀(n:Nat) (q:List Nat),q.length=p.M.length→Leq R q→(spreadF p.g p.W B n q).2=true∧Leq R (spreadF p.g p.W B n q).1
 |0,q,_,hl=>⟨rfl,hl⟩
 |n+1,q,hq,hl=>by
  have hc':checkP ⟨p.g,p.W,q⟩=0:=by rw[again_check hq];exact hc
  obtain⟨hn,ho⟩:=clo_nar hc h hq hl;obtain⟨b1,b2⟩:=pass_clo B (narM ⟨p.g,p.W,q⟩) 0 (fun l hl=>⟨fun x hx=>ok_cell h.ok (hs l hl x hx),h.no l hl⟩) hn (by decide);simp only[spreadF];rw[if_pos ho,if_neg b1];split
  ·exact clo_spread hc h hs n _ (by rw[pass_len,narM_len _ hc'];exact hq) b2
  ·exact⟨rfl,b2⟩
theorem given_bar {f:List Int}:∀(G:List (Int×Int)) (m:List Nat),(∀x∈G,0≤x.2∧x.2<64)→Sat f G→Leq (letM f) m→Leq (letM f) (givenF G m)
 | [],m,_,_,h=>h
 |x::G,m,hr,hs,h=>by
  simp only[givenF];refine given_bar G _ (fun y hy=>hr y (List.mem_cons_of_mem _ hy)) (fun y hy=>hs y (List.mem_cons_of_mem _ hy)) fun c i hi=> ?_;have h1:=h c i hi;unfold bitAt;rw[getD_set_nat];split
  ·rename_i e;have hx:=hs x List.mem_cons_self;rw[e.1,(letM_bit hi).1] at hx;have h2:=hr x List.mem_cons_self;rw[Nat.testBit_and,e.1,show(m.getD c 0).testBit i=true from h1,ofN_one,Bool.true_and];unfold bitN;rw[if_neg (by omega),Nat.testBit_two_pow,decide_eq_true (by omega)]
  ·exact h1
theorem fil_given {p:Pr} {f:List Int} (F:Fil p (slotsF p.g) f):Leq (letM f) p.M:=by
 intro c i hi;have hb:=letM_bit hi;have h1:=F.low c (by rw[hb.1];omega);have h3:=(has_bit.1 h1.1).2.2;rw[hb.1,Int.toNat_natCast] at h3;exact h3
theorem fil_clo {p:Pr} (hc:checkP p=0) {f:List Int} (F:Fil p (slotsF p.g) f) {B:List (List (Int×Int))} (hB:∀l∈B,¬Sat f l):Clo p B (letM f):=by
 have hlen:(letM f).length=p.M.length:=by unfold letM;rw[List.length_map];exact F.len
 have hp:=fil_picked F (q:=letM f) hlen (Leq.refl _);have hR:checkP ⟨p.g,p.W,letM f⟩=0:=by rw[again_check hlen];exact hc
 have e:narM ⟨p.g,p.W,letM f⟩=letM f:=leq_antisymm (by rw[narM_len _ hR]) (nar_given hR) (hp.leq hR rfl);refine⟨hlen,hp.stable rfl,(fil_picked F rfl (fil_given F)).below,?_,fun l hl=> ?_⟩
 ·have:=hp.ok hR rfl;rw[narO_eq hR,narW_eq hR,e] at this;exact this
 ·unfold unitF;split
  ·rename_i ha;refine absurd (fun x hx=> ?_) (hB l hl);have h1:=List.all_eq_true.1 ha x hx;have h2:=has_lt h1;have:=(letM_bit (bit_at h1)).1;omega
  ·rfl
def takenOf (B:List (List (Int×Int))) (r:Int×Int):Int:=if r.2=150∨r.2=151 then r.1 else B.length
theorem checkN_taken (p:Pr) (A E:List (Int×Int)) (B:List (List (Int×Int))):∀(z:Nat) (i:Int),0≤i→i+z=B.length→(0≤takenOf B (checkN p A E B z i)∧takenOf B (checkN p A E B z i)≤B.length)∧
  ∀j:Nat,i≤j→(j:Int)<takenOf B (checkN p A E B z i)→(B.getD j []).any (oddP A E)=false∧(spreadG p (B.getD j []) (B.take j)).2=false
 |0,i,i0,hi=>by
  simp only[checkN];have hj:∀j:Nat,i≤j→(j:Int)<B.length→(B.getD j []).any (oddP A E)=false∧(spreadG p (B.getD j []) (B.take j)).2=false:=fun j h1 h2=>by omega
  split
  ·rename_i hb;subst hb;exact⟨by simp[takenOf],fun j h1 h2=>by simp[takenOf] at h2;omega⟩
  ·split
   ·exact⟨by simp[takenOf],fun j h1 h2=>hj j h1 (by simpa [takenOf] using h2)⟩
   ·exact⟨by simp[takenOf],fun j h1 h2=>hj j h1 (by simpa [takenOf] using h2)⟩
 |z+1,i,i0,hi=>by
  simp only[checkN];split
  ·exact⟨by simp[takenOf];omega,fun j h1 h2=>by simp[takenOf] at h2;omega⟩
  ·rename_i ha;split
   ·exact⟨by simp[takenOf];omega,fun j h1 h2=>by simp[takenOf] at h2;omega⟩
   ·rename_i hs;obtain⟨ih1,ih2⟩:=checkN_taken p A E B z (i+1) (by omega) (by omega);refine⟨ih1,fun j h1 h2=> ?_⟩;by_cases e:i=j
    ·subst e;rw[Int.toNat_natCast] at ha hs;exact⟨by simpa using ha,by simpa using hs⟩
    ·exact ih2 j (by omega) h2
theorem seats_pair {p:Pr} (hc:checkP p=0) {l:List (Int×Int)} (hl:l.any (oddP (seatsF p.g).1 (seatsF p.g).2)=false):∀x∈l,(0≤x.2∧x.2<64)∧0≤x.1∧seatedB (slotsF p.g) x.1.toNat=true:=by
 intro x hx;have h1:=List.any_eq_false.1 hl x hx;have h2:pairOk (seatsF p.g).1 (seatsF p.g).2 x=true:=by unfold oddP at h1;simpa using h1
 unfold pairOk at h2;simp only[Bool.and_eq_true,Bool.or_eq_true,decide_eq_true_eq] at h2;obtain⟨⟨a1,a2,a3,a4⟩,a5⟩:=h2;obtain⟨s1,s2,s3,s4⟩:=seats_are (checkP_zero hc).1 a1;have seat:∃d s k,Sits (slotsF p.g) d x.1 s k:=by
  by_cases hex:∃s k,Sits (slotsF p.g) false x.1 s k
  ·obtain⟨s,k,h⟩:=hex;exact⟨_,s,k,h⟩
  ·by_cases hex2:∃s k,Sits (slotsF p.g) true x.1 s k
   ·obtain⟨s,k,h⟩:=hex2;exact⟨_,s,k,h⟩
   ·have e1:=s1.2 (fun s k h=>hex ⟨s,k,h⟩);have e2:=s2.2 (fun s k h=>hex2 ⟨s,k,h⟩);unfold sAt at e1 e2;have b:∀A:List (Int×Int),x.1.toNat<A.length→A.getD x.1.toNat (0,0)=A.getD x.1.toNat (-1,0):=fun A h=>by
     rw[gE,gE,gQ h];rfl
    rw[b _ (by omega),b _ (by omega),e1,e2] at a5;simp at a5
 obtain⟨d,s,k,y,y1,y2,y3,y4⟩:=seat;exact⟨⟨a3,by omega⟩,a1,seated_of (List.mem_of_getElem? y1) (by rw[←y4];exact getD_in y3)⟩
theorem take_get {α:Type} {B:List α} {j k:Nat} {d:α} (h:k< (B.take j).length):(B.take j)[k]=B.getD k d∧k<j∧k<B.length:=by
 rw[List.length_take] at h;refine⟨?_,by omega,by omega⟩;rw[List.getElem_take,gE,gQ (by omega)];rfl
theorem taken_bar {p:Pr} (hc:checkP p=0) {B:List (List (Int×Int))} (hb:B.length≤65000):(0≤takenOf B (checkR p B)∧takenOf B (checkR p B)≤B.length)∧
  ∀j:Nat,(j:Int)<takenOf B (checkR p B)→(B.getD j []).any (oddP (seatsF p.g).1 (seatsF p.g).2)=false∧∀f,Fil p (slotsF p.g) f→¬Sat f (B.getD j []):=by
 have er:checkR p B=checkN p (seatsF p.g).1 (seatsF p.g).2 B B.length 0:=by unfold checkR;rw[if_pos hc,if_neg (by omega)]
 rw[er];obtain⟨t1,t2⟩:=checkN_taken p (seatsF p.g).1 (seatsF p.g).2 B B.length 0 (by omega) (by omega);refine⟨t1,fun j=> ?_⟩;induction j using Nat.strongRecOn with
 |ind j ih=>
  intro hj;obtain⟨c1,c2⟩:=t2 j (by omega) hj;refine⟨c1,fun f F hs=> ?_⟩;have hk:∀l∈B.take j,l.any (oddP (seatsF p.g).1 (seatsF p.g).2)=false∧¬Sat f l:=fun l hl=>by
   obtain⟨k,hk,rfl⟩:=List.mem_iff_getElem.1 hl;obtain⟨e,e1,e2⟩:=take_get (d:=[]) hk;rw[e];obtain⟨i1,i2⟩:=ih k e1 (by omega);exact⟨i1,i2 f F⟩
  have h:=clo_spread hc (fil_clo hc F (B:=B.take j) (fun l hl=>(hk l hl).2)) (fun l hl x hx=>(seats_pair hc (hk l hl).1 x hx).2.2) ((givenF (B.getD j []) p.M).sum+1) (givenF (B.getD j []) p.M) (given_len _ _)
   (given_bar _ _ (fun x hx=>(seats_pair hc c1 x hx).1) hs (fil_given F))
  unfold spreadG at c2;rw[h.1] at c2;cases c2
theorem d93R (A E:List (Int×Int)) (c y:Int) (hl:E.length=A.length):Con Tryd.prog 93 [] [slQ A,slQ E,.agg [vi c,vi y]] (vb (pairOk A E (c,y))) [] []:=by
 refine con_vc (how:=[none]) (c:=r93) (K:=(KK r93)) spS (fun _=> []) (fun _=> []) 400 (.fork (.t (.t (.t .stop))) (.fork (.t (.t .stop)) (.fork (.t .stop) (.fork .stop (.fork .stop .stop))))) (V:=fun G R=>(decide (c< (0:Int))=true→true=true∧true=true∧true=true∧R (vb false,[],[]))∧(decide (c< (0:Int))=false→(decide (c≥(↑A.length:Int))=true→true=true∧true=true∧R (vb false,[],[]))∧(decide (c≥(↑A.length:Int))=false→(decide (y< (0:Int))=true→true=true∧R (vb false,[],[]))∧(decide (y< (0:Int))=false→(decide (y>(63:Int))=true→R (vb false,[],[]))∧(decide (y>(63:Int))=false→0≤c∧c<A.length∧(decide ((A.getD c.toNat tQ.dflt).fst≥(0:Int))=true→R (vb true,[],[]))∧(decide ((A.getD c.toNat tQ.dflt).fst≥(0:Int))=false→0≤c∧c<E.length∧R (vb (decide ((E.getD c.toNat tQ.dflt).fst≥(0:Int))),[],[]))))))) hmG Tryd.func93 (by kernel_rfl) (by kernel_rfl) (fun G R=>by kernel_rfl) ?_;try dsimp only
 try dsimp only
 obtain⟨p,hp⟩:∃p,A.getD c.toNat (0,0)=p:=⟨_,rfl⟩;obtain⟨e,he⟩:∃e,E.getD c.toNat (0,0)=e:=⟨_,rfl⟩;simp only[Ty.dflt,hp,he];by_cases h:0≤c∧c<A.length∧0≤y∧y≤63
 ·have hd:decide (0≤c∧c< (A.length:Int)∧0≤y∧y≤63)=true:=decide_eq_true h;obtain⟨b,hb⟩:∃b,pairOk A E (c,y)=b:=⟨_,rfl⟩;have hv:b=(decide (0≤p.1)||decide (0≤e.1)):=by
   rw[←hb];simp only[oddP,pairOk,hp,he,hd,Bool.true_and]
  rw[hb];by_cases hp0:0≤p.1
  ·have e1:decide (p.1≥0)=true:=decide_eq_true hp0;have e2:decide (p.1<0)=false:=decide_eq_false (by omega);have e3:decide (0≤p.1)=true:=decide_eq_true hp0;rw[e3,Bool.true_or] at hv;subst hv;simp only[e1,e2];simp (disch:=omega) only[oo,oop,oq,reduceCtorEq];repeat' first|with_reducible apply And.intro|intro _|rfl|omega|assumption|trivial|(exfalso;simp_all;done)
  ·have e1:decide (p.1≥0)=false:=decide_eq_false hp0;have e2:decide (p.1<0)=true:=decide_eq_true (by omega);have e3:decide (0≤p.1)=false:=decide_eq_false hp0;rw[e3,Bool.false_or] at hv;have e4:decide (e.1<0)= !decide (0≤e.1):=by
    by_cases q:0≤e.1
    ·rw[decide_eq_true q,decide_eq_false (by omega)];rfl
    ·rw[decide_eq_false q,decide_eq_true (by omega)];rfl
   subst hv;simp only[e1,e2,e4,ge_iff_le];simp (disch:=omega) only[oo,oop,oq,reduceCtorEq];repeat' first|with_reducible apply And.intro|intro _|rfl|omega|assumption|trivial|(exfalso;simp_all;done)
 ·have hd:decide (0≤c∧c< (A.length:Int)∧0≤y∧y≤63)=false:=decide_eq_false h;have hv:pairOk A E (c,y)=false:=by
   simp only[oddP,pairOk,hd,Bool.false_and,Bool.not_false]
  rw[hv];by_cases h1:c<0
  ·have q:decide (c<0)=true:=decide_eq_true h1;simp only[q];simp (disch:=omega) only[oo,oop,oq,reduceCtorEq];repeat' first|with_reducible apply And.intro|intro _|rfl|omega|assumption|trivial|(exfalso;simp_all;done)
  ·by_cases h2:c≥A.length
   ·have q:decide (c≥(A.length:Int))=true:=decide_eq_true h2;simp only[q];simp (disch:=omega) only[oo,oop,oq,reduceCtorEq];repeat' first|with_reducible apply And.intro|intro _|rfl|omega|assumption|trivial|(exfalso;simp_all;done)
   ·by_cases h3:y<0
    ·have q:decide (y<0)=true:=decide_eq_true h3;simp only[q];simp (disch:=omega) only[oo,oop,oq,reduceCtorEq];repeat' first|with_reducible apply And.intro|intro _|rfl|omega|assumption|trivial|(exfalso;simp_all;done)
    ·have q:decide (y>63)=true:=decide_eq_true (by omega);simp only[q];simp (disch:=omega) only[oo,oop,oq,reduceCtorEq];repeat' first|with_reducible apply And.intro|intro _|rfl|omega|assumption|trivial|(exfalso;simp_all;done)
theorem d90R (A E:List (Int×Int)) (c y:Int) (hl:E.length=A.length):Con Tryd.prog 90 [] [.agg [vi c,vi y],.rptr [slQ A],.rptr [slQ E]] (vb (oddP A E (c,y))) [] []:=by
 refine con_vc (how:=[none]) (c:=r90) (K:=(KK r90)) spS (fun _=> []) (fun _=> []) 400 (.fork (.t (.t (.t .stop))) (.fork (.t (.t .stop)) (.fork (.t .stop) (.fork .stop (.fork .stop .stop))))) (V:=fun G R=>(decide (c< (0:Int))=true→true=true∧true=true∧true=true∧R (vb true,[],[]))∧(decide (c< (0:Int))=false→(decide (c≥(↑A.length:Int))=true→true=true∧true=true∧R (vb true,[],[]))∧(decide (c≥(↑A.length:Int))=false→(decide (y< (0:Int))=true→true=true∧R (vb true,[],[]))∧(decide (y< (0:Int))=false→(decide (y>(63:Int))=true→R (vb true,[],[]))∧(decide (y>(63:Int))=false→0≤c∧c<A.length∧(decide ((A.getD c.toNat tQ.dflt).fst< (0:Int))=true→0≤c∧c<E.length∧R (vb (decide ((E.getD c.toNat tQ.dflt).fst< (0:Int))),[],[]))∧(decide ((A.getD c.toNat tQ.dflt).fst< (0:Int))=false→R (vb false,[],[]))))))) hmG Tryd.func90 (by kernel_rfl) (by kernel_rfl) (fun G R=>by kernel_rfl) ?_;try dsimp only
 try dsimp only
 obtain⟨p,hp⟩:∃p,A.getD c.toNat (0,0)=p:=⟨_,rfl⟩;obtain⟨e,he⟩:∃e,E.getD c.toNat (0,0)=e:=⟨_,rfl⟩;simp only[Ty.dflt,hp,he];by_cases h:0≤c∧c<A.length∧0≤y∧y≤63
 ·have hd:decide (0≤c∧c< (A.length:Int)∧0≤y∧y≤63)=true:=decide_eq_true h;obtain⟨b,hb⟩:∃b,oddP A E (c,y)=b:=⟨_,rfl⟩;have hv:b= !(decide (0≤p.1)||decide (0≤e.1)):=by
   rw[←hb];simp only[oddP,pairOk,hp,he,hd,Bool.true_and]
  rw[hb];by_cases hp0:0≤p.1
  ·have e1:decide (p.1≥0)=true:=decide_eq_true hp0;have e2:decide (p.1<0)=false:=decide_eq_false (by omega);have e3:decide (0≤p.1)=true:=decide_eq_true hp0;rw[e3,Bool.true_or] at hv;subst hv;simp only[e1,e2];simp (disch:=omega) only[oo,oop,oq,reduceCtorEq];repeat' first|with_reducible apply And.intro|intro _|rfl|omega|assumption|trivial|(exfalso;simp_all;done)
  ·have e1:decide (p.1≥0)=false:=decide_eq_false hp0;have e2:decide (p.1<0)=true:=decide_eq_true (by omega);have e3:decide (0≤p.1)=false:=decide_eq_false hp0;rw[e3,Bool.false_or] at hv;have e4:decide (e.1<0)= !decide (0≤e.1):=by
    by_cases q:0≤e.1
    ·rw[decide_eq_true q,decide_eq_false (by omega)];rfl
    ·rw[decide_eq_false q,decide_eq_true (by omega)];rfl
   subst hv;simp only[e1,e2,e4,ge_iff_le];simp (disch:=omega) only[oo,oop,oq,reduceCtorEq];repeat' first|with_reducible apply And.intro|intro _|rfl|omega|assumption|trivial|(exfalso;simp_all;done)
 ·have hd:decide (0≤c∧c< (A.length:Int)∧0≤y∧y≤63)=false:=decide_eq_false h;have hv:oddP A E (c,y)=true:=by
   simp only[oddP,pairOk,hd,Bool.false_and,Bool.not_false]
  rw[hv];by_cases h1:c<0
  ·have q:decide (c<0)=true:=decide_eq_true h1;simp only[q];simp (disch:=omega) only[oo,oop,oq,reduceCtorEq];repeat' first|with_reducible apply And.intro|intro _|rfl|omega|assumption|trivial|(exfalso;simp_all;done)
  ·by_cases h2:c≥A.length
   ·have q:decide (c≥(A.length:Int))=true:=decide_eq_true h2;simp only[q];simp (disch:=omega) only[oo,oop,oq,reduceCtorEq];repeat' first|with_reducible apply And.intro|intro _|rfl|omega|assumption|trivial|(exfalso;simp_all;done)
   ·by_cases h3:y<0
    ·have q:decide (y<0)=true:=decide_eq_true h3;simp only[q];simp (disch:=omega) only[oo,oop,oq,reduceCtorEq];repeat' first|with_reducible apply And.intro|intro _|rfl|omega|assumption|trivial|(exfalso;simp_all;done)
    ·have q:decide (y>63)=true:=decide_eq_true (by omega);simp only[q];simp (disch:=omega) only[oo,oop,oq,reduceCtorEq];repeat' first|with_reducible apply And.intro|intro _|rfl|omega|assumption|trivial|(exfalso;simp_all;done)
def vq48 (A:List (Int×Int)) (E:List (Int×Int)) (L:List (Int×Int)) (k:Int) (G:GT) (R:RT):Prop:=let yy1:=(L.getD k.toNat tQ.dflt);(decide (k<L.length)=true→0≤k∧k<L.length∧cP 90 [] [D.agg [vi yy1.fst,vi yy1.snd],D.rptr [sL tQ A],D.rptr [sL tQ E]] (vb (oddP A E (yy1.fst,yy1.snd))) [] []∧vE yy1.fst yy1.fst∧vE yy1.snd yy1.snd∧A=A∧E=E∧(oddP A E (yy1.fst,yy1.snd)=true→R (vi k,[],[]))∧(oddP A E (yy1.fst,yy1.snd)=false→sK r121 0∧G 0 (stOf 19 [0,1,6,7,8] [sL tQ L,D.fn 90 [D.rptr [sL tQ A],D.rptr [sL tQ E]],sL tQ L,vi L.length,vi (IntKind.i64.wrap (k+1))] [])))∧(decide (k<L.length)=false→R (vi (-1),[],[]))
theorem e121 (A E:List (Int×Int)) (L:List (Int×Int)) (hl:E.length=A.length) (hL:L.length≤8796093022208) (z:Nat):∀(k:Int),0≤k→k+z=L.length→∀r,r=findP (oddP A E) k (L.drop k.toNat)→GetsK Tryd.prog Tryd.f121.results.toList [none] (KK r121) 0 (vi r,[],[]) 0 (stOf 19 [0,1,6,7,8] [slQ L,oddD A E,slQ L,vi L.length,vi k] []):=by
 induction z with
 |zero=>
  intro k k0 hk r hr;rw[List.drop_eq_nil_of_le (by omega)] at hr;have hr:r= -1:=hr;subst hr;refine gets_vc spS (fun _=> [0,1,6,7,8]) (fun _=> []) 400 (.fork (.fork .stop (.hd 0)) .stop) (V:=vq48 A E L k) hmG (fun G R=>by kernel_rfl) ?_;unfold vq48;try dsimp only
  simp (disch:=omega) only[oo,oop,oq,reduceCtorEq];repeat' first|with_reducible apply And.intro|intro _|rfl|omega|assumption|trivial|(exfalso;simp_all;done)
 |succ z ih=>
  intro k k0 hk r hr;have hk1:IntKind.i64.wrap (k+1)=k+1:=wrG (by omega) (by omega);rw[drop_at (xs:=L) (i:=k) (0,0) k0 (by omega)] at hr;have h1:=ih (k+1) (by omega) (by omega) _ rfl;obtain⟨a,ha⟩:∃a,L.getD k.toNat (0,0)=a:=⟨_,rfl⟩;rw[ha] at hr;have c1:=d90R A E a.1 a.2 hl;have ea:((a.1,a.2):Int×Int)=a:=rfl;rw[ea] at c1;refine gets_vc spS (fun _=> [0,1,6,7,8]) (fun _=> []) 400 (.fork (.fork .stop (.hd 0)) .stop) (V:=vq48 A E L k) hmG (fun G R=>by kernel_rfl) ?_;unfold vq48;try dsimp only
  simp only[Ty.dflt,hk1,ha];rw[ea];by_cases hf:oddP A E a=true
  ·have hr:r=k:=by rw[hr];simp only[findP,hf,if_true]
   subst hr;rw[hf] at c1;simp only[hf];simp (disch:=omega) only[oo,oop,oq,reduceCtorEq];repeat' first|with_reducible apply And.intro|intro _|rfl|omega|assumption|trivial|(exfalso;simp_all;done)
  ·have hf':oddP A E a=false:=by simpa using hf
   have hr:r=findP (oddP A E) (k+1) (L.drop (k+1).toNat):=by rw[hr];simp only[findP,hf',Bool.false_eq_true,if_false]
   rw[←hr] at h1;rw[hf'] at c1;simp only[hf'];simp (disch:=omega) only[oo,oop,oq,reduceCtorEq];repeat' first|with_reducible apply And.intro|intro _|rfl|omega|assumption|trivial|(exfalso;simp_all;done)
theorem d121R (A E:List (Int×Int)) (L:List (Int×Int)) (hl:E.length=A.length) (hL:L.length≤8796093022208):Con Tryd.prog 121 [] [slQ L,oddD A E] (vi (findP (oddP A E) 0 L)) [] []:=by
 refine con_vc (how:=[none]) (c:=r121) (K:=(KK r121)) spS (fun _=> [0,1,6,7,8]) (fun _=> []) 400 (.hd 0) (V:=fun G R=>sK r121 0∧G 0 (stOf 19 [0,1,6,7,8] [sL tQ L,D.fn 90 [D.rptr [sL tQ A],D.rptr [sL tQ E]],sL tQ L,vi L.length,vi 0] [])) hmG Tryd.func121 (by kernel_rfl) (by kernel_rfl) (fun G R=>by kernel_rfl) ?_;try dsimp only
 try dsimp only
 have hx:=e121 A E L hl hL L.length 0 (by omega) (by omega) _ rfl;simp (disch:=omega) only[oo,oop,oq,reduceCtorEq];repeat' first|with_reducible apply And.intro|intro _|rfl|omega|assumption|trivial|(exfalso;simp_all;done)
theorem d91R (A E:List (Int×Int)) (L:List (Int×Int)) (hl:E.length=A.length) (hL:L.length≤8796093022208):Con Tryd.prog 91 [] [slQ L,oddD A E] (vb (L.any (oddP A E))) [] []:=by
 refine con_vc (how:=[none]) (c:=r91) (K:=(KK r91)) spS (fun _=> []) (fun _=> []) 400 .stop (V:=fun G R=>cP 121 [] [sL tQ L,D.fn 90 [D.rptr [sL tQ A],D.rptr [sL tQ E]]] (vi (findP (oddP A E) (0:Int) L)) [] []∧L=L∧A=A∧E=E∧R (vb (decide (findP (oddP A E) (0:Int) L≥(0:Int))),[],[])) hmG Tryd.func91 (by kernel_rfl) (by kernel_rfl) (fun G R=>by kernel_rfl) ?_;try dsimp only
 try dsimp only
 have c1:=d121R A E L hl hL;have e1:=findP_any (oddP A E) L 0 (by omega);rw[e1];simp (disch:=omega) only[oo,oop,oq,reduceCtorEq];repeat' first|with_reducible apply And.intro|intro _|rfl|omega|assumption|trivial|(exfalso;simp_all;done)
theorem in_range {A E:List (Int×Int)} {l:List (Int×Int)} (h:l.any (oddP A E)=false):∀x∈l,0≤x.1∧x.1<A.length:=by
 intro x hx;rw[List.any_eq_false] at h;have h1:=h x hx;have h2:pairOk A E x=true:=by
  unfold oddP at h1;simpa using h1
 unfold pairOk at h2;rw[Bool.and_eq_true,decide_eq_true_eq] at h2;exact⟨h2.1.1,h2.1.2.1⟩
theorem take_odd {A E:List (Int×Int)} {B:List (List (Int×Int))} {i:Int} (i0:0≤i) (hi:i<B.length) (h:∀l∈B.take i.toNat,l.any (oddP A E)=false) (hl:(B.getD i.toNat []).any (oddP A E)=false):∀l∈B.take (i+1).toNat,l.any (oddP A E)=false:=by
 intro l hm;rw[take_succ_at ([]:List (Int×Int)) B i0 (by omega),List.mem_append,List.mem_singleton] at hm;rcases hm with hm|hm
 ·exact h l hm
 ·rw[hm];exact hl
def vq49 (g:Gr) (W:List (List Int)) (M:List Nat) (B:List (List (Int×Int))) (A:List (Int×Int)) (E:List (Int×Int)) (i:Int) (G:GT) (R:RT):Prop:=let yy1:=(spreadG (Pr.mk g W (Nt (Mi M))) (B.getD i.toNat tQ.sl.dflt) (List.take (i.toNat-0) (List.drop 0 B)));let yy2:=(Pr.mk g W (Nt (Mi M)));let yy3:=(↑B.length:Int);let yy4:=(oddP (List.take A.length (List.drop 0 A)) (List.take E.length (List.drop 0 E)));let yy5:=(B.getD i.toNat tQ.sl.dflt);let yy6:=((↑(List.length (B.getD (IntKind.i64.wrap (yy3-(1:Int))).toNat tQ.sl.dflt)):Int)>0);(decide (i<yy3)=true→0≤i∧i<yy3∧cP 91 [] [sL tQ yy5,D.fn 90 [D.rptr [sL tQ (List.take A.length (List.drop 0 A))],D.rptr [sL tQ (List.take E.length (List.drop 0 E))]]] (vb (List.any yy5 yy4)) [] []∧B.getD i.toNat tQ.sl.dflt=B.getD i.toNat tQ.sl.dflt∧List.take A.length (List.drop 0 A)=List.take A.length (List.drop 0 A)∧List.take E.length (List.drop 0 E)=List.take E.length (List.drop 0 E)∧(List.any yy5 yy4=true→R (D.tup [vi i,vi 150],[],[]))∧(List.any yy5 yy4=false→(0:Int)≤0∧0≤i∧i≤yy3∧cP 92 [] [D.agg (gG yy2.g [sL tI.sl yy2.W,sL tU (Mi yy2.M)]),sL tQ yy5,sL tQ.sl (List.take (i.toNat-0) (List.drop 0 B))] (D.tup [o0 0 yy1.fst.length,vb yy1.snd]) [] [Row.data 22 tU (Mi yy1.fst)]∧gS g yy2.g (W=yy2.W∧Mi M=Mi yy2.M∧B.getD i.toNat tQ.sl.dflt=B.getD i.toNat tQ.sl.dflt∧List.take (i.toNat-0) (List.drop 0 B)=List.take (i.toNat-0) (List.drop 0 B)∧(yy1.snd=true→R (D.tup [vi i,vi 151],[],[]))∧(yy1.snd=false→sK r55 0∧G 0 (stOf 67 [1,2,9,29,30,31] [sL tQ.sl B,p0,D.fn 90 [D.ptr 1 0 0,D.ptr 2 0 0],sL tQ.sl B,vi yy3,vi (IntKind.i64.wrap (i+1))] [lB 73 (gG g [sL tI.sl W,sL tU (Mi M)]),lB 55 [o0 3 A.length],lB 55 [o0 4 E.length],lD 61 tQ A,lD 61 tQ E])))))∧(decide (i<yy3)=false→((yy3==(0:Int))=true→true=true∧R (D.tup [vi yy3,vi 151],[],[]))∧((yy3==(0:Int))=false→(0:Int)≤IntKind.i64.wrap (yy3-(1:Int))∧IntKind.i64.wrap (yy3-(1:Int))<yy3∧(decide yy6=true→R (D.tup [vi yy3,vi 151],[],[]))∧(decide yy6=false→R (D.tup [vi 0,vi 0],[],[]))))
theorem e55 (g:Gr) (W:List (List Int)) (M:List Nat) (B:List (List (Int×Int))) (A E:List (Int×Int)) (hc:checkP ⟨g,W,M⟩=0) (hM:Smalls M) (hA:A.length=M.length) (hE:E.length=A.length) (hBn:B.length≤65000) (hBl:∀l∈B,l.length≤8796093022208) (z:Nat):∀(i:Int),0≤i→i+z=B.length→(∀l∈B.take i.toNat,l.any (oddP A E)=false)→∀r,r=checkN ⟨g,W,M⟩ A E B z i→GetsK Tryd.prog Tryd.f55.results.toList [none,none] (KK r55) 0 (.tup [vi r.1,vi r.2],[],[]) 0 (stOf 67 [1,2,9,29,30,31] [slBd B,.ptr 0 0 0,.fn 90 [.ptr 1 0 0,.ptr 2 0 0],slBd B,vi B.length,vi i] [lB 73 (gG g [slW W,slU M]),lB 55 [o0 3 A.length],lB 55 [o0 4 E.length],lD 61 SeT A,lD 61 SeT E]):=by
 induction z with
 |zero=>
  intro i i0 hi ht r hr;refine gets_vc spS (fun _=> [1,2,9,29,30,31]) (fun _=> []) 400 (.fork (.fork .stop (.fork .stop (.hd 0))) (.fork (.t .stop) (.fork .stop .stop))) (V:=vq49 g W M B A E i) hmG (fun G R=>by kernel_rfl) ?_;unfold vq49;try dsimp only
  simp only[checkN] at hr;by_cases hb:B=[]
  ·rw[if_pos hb] at hr;subst hr;subst hb;have w1:((([]:List (List (Int×Int))).length:Int)==0)=true:=rfl;simp only[w1];simp (disch:=omega) only[oo,oop,oq,reduceCtorEq];repeat' first|with_reducible apply And.intro|intro _|rfl|omega|assumption|trivial|(exfalso;simp_all;done)
  ·rw[if_neg hb] at hr;have hl0:B.length≠0:=fun e=>hb (List.length_eq_zero_iff.1 e);have w1:((B.length:Int)==0)=false:=by rw[beq_eq_false_iff_ne];omega
   have w2:IntKind.i64.wrap ((B.length:Int)-1)=(B.length:Int)-1:=wrG (by omega) (by omega);have w3:((B.length:Int)-1).toNat=B.length-1:=by omega
   obtain⟨l,hll⟩:∃l,B.getD (B.length-1) []=l:=⟨_,rfl⟩;rw[hll] at hr;simp only[w1,w2,w3,Ty.dflt,hll];by_cases hz:l.length>0
   ·rw[if_pos hz] at hr;subst hr;have w4:decide ((l.length:Int)>0)=true:=decide_eq_true (by omega);simp only[w4];simp (disch:=omega) only[oo,oop,oq,reduceCtorEq];repeat' first|with_reducible apply And.intro|intro _|rfl|omega|assumption|trivial|(exfalso;simp_all;done)
   ·rw[if_neg hz] at hr;subst hr;have w4:decide ((l.length:Int)>0)=false:=decide_eq_false (by omega);simp only[w4];simp (disch:=omega) only[oo,oop,oq,reduceCtorEq];repeat' first|with_reducible apply And.intro|intro _|rfl|omega|assumption|trivial|(exfalso;simp_all;done)
 |succ z ih=>
  intro i i0 hi ht r hr;have hk1:IntKind.i64.wrap (i+1)=i+1:=wrG (by omega) (by omega);have hln:=hBl _ (getD_in (d:=([]:List (Int×Int))) (k:=i.toNat) (l:=B) (by omega));have hto:=take_odd (A:=A) (E:=E) (B:=B) (i:=i) i0 (by omega) ht;simp only[checkN] at hr;obtain⟨l,hll⟩:∃l,B.getD i.toNat []=l:=⟨_,rfl⟩;rw[hll] at hr hln hto;have c91:=d91R A E l hE hln;refine gets_vc spS (fun _=> [1,2,9,29,30,31]) (fun _=> []) 400 (.fork (.fork .stop (.fork .stop (.hd 0))) (.fork (.t .stop) (.fork .stop .stop))) (V:=vq49 g W M B A E i) hmG (fun G R=>by kernel_rfl) ?_;unfold vq49;try dsimp only
  simp only[Ty.dflt,hk1,hll,Nt_Mi,List.drop_zero,List.take_length,Nat.sub_zero];by_cases ha:l.any (oddP A E)=true
  ·rw[if_pos ha] at hr;subst hr;rw[ha] at c91;simp only[ha];simp (disch:=omega) only[oo,oop,oq,reduceCtorEq];repeat' first|with_reducible apply And.intro|intro _|rfl|omega|assumption|trivial|(exfalso;simp_all;done)
  ·have ha':l.any (oddP A E)=false:=by simpa using ha
   rw[if_neg ha] at hr;rw[ha'] at c91;have c92:=d92 g W M l (B.take i.toNat) hc hM hln (by rw[←hA];exact in_range ha') (by simp;omega) (fun l' h'=>⟨hBl l' (List.mem_of_mem_take h'),by rw[←hA];exact in_range (ht l' h')⟩);obtain⟨s,hs⟩:∃s,spreadG ⟨g,W,M⟩ l (B.take i.toNat)=s:=⟨_,rfl⟩;rw[hs] at hr c92;simp only[ha',hs];by_cases hs2:s.2=true
   ·rw[if_pos hs2] at hr;subst hr;rw[hs2] at c92;simp only[hs2];simp (disch:=omega) only[oo,oop,oq,reduceCtorEq];repeat' first|with_reducible apply And.intro|intro _|rfl|omega|assumption|trivial|(exfalso;simp_all;done)
   ·have hs3:s.2=false:=by simpa using hs2
    rw[if_neg hs2] at hr;have hg:=ih (i+1) (by omega) (by omega) (hto ha') r hr;rw[hs3] at c92;simp only[hs3];simp (disch:=omega) only[oo,oop,oq,reduceCtorEq];repeat' first|with_reducible apply And.intro|intro _|rfl|omega|assumption|trivial|(exfalso;simp_all;done)
def vq50 (g:Gr) (W:List (List Int)) (M:List Nat) (B:List (List (Int×Int))) (A:List (Int×Int)) (E:List (Int×Int)) (i:Int) (k:Int) (G:GT) (R:RT):Prop:=let yy1:=(List.getD (B.getD i.toNat tQ.sl.dflt) k.toNat tQ.dflt);let yy2:=(Pr.mk g W (Nt (Mi M)));let yy3:=(Row.box 73 (gG g [sL tI.sl W,sL tU (Mi M)]));let yy4:=(spreadG yy2 (B.getD i.toNat tQ.sl.dflt) (List.take (i.toNat-0) (List.drop 0 B)));let yy5:=(List.take A.length (List.drop 0 A));let yy6:=(List.take E.length (List.drop 0 E));let yy7:=(↑(List.length (B.getD i.toNat tQ.sl.dflt)):Int);0≤i∧i<B.length∧(decide (k<yy7)=true→0≤i∧i<B.length∧0≤k∧k<yy7∧cP 93 [] [sL tQ yy5,sL tQ yy6,D.agg [vi yy1.fst,vi yy1.snd]] (vb (pairOk yy5 yy6 (yy1.fst,yy1.snd))) [] []∧List.take A.length (List.drop 0 A)=List.take A.length (List.drop 0 A)∧List.take E.length (List.drop 0 E)=List.take E.length (List.drop 0 E)∧vE yy1.fst yy1.fst∧vE yy1.snd yy1.snd∧((!pairOk yy5 yy6 (yy1.fst,yy1.snd))=true→R (D.tup [vi i,vi 150],[],[]))∧((!pairOk yy5 yy6 (yy1.fst,yy1.snd))=false→sK r56 1∧G 1 (stOf 78 [1,2,7,8,9,10] [sL tQ.sl B,p0,o0 1 A.length,o0 2 E.length,vi i,vi (IntKind.i64.wrap (k+1))] [Slot.live yy3,lD 61 tQ A,lD 61 tQ E])))∧(decide (k<yy7)=false→0≤i∧i<B.length∧(0:Int)≤0∧0≤i∧i≤B.length∧cP 94 [] [D.agg (gG yy2.g [sL tI.sl yy2.W,sL tU (Mi yy2.M)]),sL tQ (B.getD i.toNat tQ.sl.dflt),sL tQ.sl (List.take (i.toNat-0) (List.drop 0 B))] (vb !yy4.snd) [] []∧gS g yy2.g (W=yy2.W∧Mi M=Mi yy2.M∧B.getD i.toNat tQ.sl.dflt=B.getD i.toNat tQ.sl.dflt∧List.take (i.toNat-0) (List.drop 0 B)=List.take (i.toNat-0) (List.drop 0 B)∧((!!yy4.snd)=true→R (D.tup [vi i,vi 151],[],[]))∧((!!yy4.snd)=false→sK r56 0∧G 0 (stOf 78 [1,2,7,8,9] [sL tQ.sl B,p0,o0 1 A.length,o0 2 E.length,vi (IntKind.i64.wrap (i+1))] [Slot.live yy3,lD 61 tQ A,lD 61 tQ E]))))
theorem e56b (g:Gr) (W:List (List Int)) (M:List Nat) (B:List (List (Int×Int))) (A E:List (Int×Int)) (hc:checkP ⟨g,W,M⟩=0) (hM:Smalls M) (hA:A.length=M.length) (hE:E.length=A.length) (hBn:B.length≤65000) (hBl:∀l∈B,l.length≤8796093022208) (i:Int) (i0:0≤i) (i1:i<B.length) (ht:∀l∈B.take i.toNat,l.any (oddP A E)=false) (l:List (Int×Int)) (hll:B.getD i.toNat []=l) (hln:l.length≤8796093022208) (r':Int×Int) (hx:l.any (oddP A E)=false→GetsK Tryd.prog Tryd.f56.results.toList [none,none] (KK r56) 0 (.tup [vi r'.1,vi r'.2],[],[]) 0 (stOf 78 [1,2,7,8,9] [slBd B,.ptr 0 0 0,o0 1 A.length,o0 2 E.length,vi (i+1)] [lB 73 (gG g [slW W,slU M]),lD 61 SeT A,lD 61 SeT E])) (z:Nat):∀(k:Int),0≤k→k+z=l.length→(l.any (oddP A E)=(l.drop k.toNat).any (oddP A E))→∀r,r=(if(l.drop k.toNat).any (oddP A E) then(i,150) else if(spreadG ⟨g,W,M⟩ l (B.take i.toNat)).2 then(i,151) else r')→GetsK Tryd.prog Tryd.f56.results.toList [none,none] (KK r56) 0 (.tup [vi r.1,vi r.2],[],[]) 1 (stOf 78 [1,2,7,8,9,10] [slBd B,.ptr 0 0 0,o0 1 A.length,o0 2 E.length,vi i,vi k] [lB 73 (gG g [slW W,slU M]),lD 61 SeT A,lD 61 SeT E]):=by
 have hii:IntKind.i64.wrap (i+1)=i+1:=wrG (by omega) (by omega);induction z with
 |zero=>
  intro k k0 hk ha r hr;rw[List.drop_eq_nil_of_le (by omega),List.any_nil] at hr ha;rw[if_neg (by simp)] at hr;have c94:=d94 g W M l (B.take i.toNat) hc hM hln (by rw[←hA];exact in_range ha) (by simp;omega) (fun l' h'=>⟨hBl l' (List.mem_of_mem_take h'),by rw[←hA];exact in_range (ht l' h')⟩);obtain⟨s,hs⟩:∃s,spreadG ⟨g,W,M⟩ l (B.take i.toNat)=s:=⟨_,rfl⟩;rw[hs] at hr c94;refine gets_vc spS (fun k=> [[1,2,7,8,9],[1,2,7,8,9,10]].getD k []) (fun _=> []) 400 (.fork (.fork .stop (.hd 1)) (.fork .stop (.hd 0))) (V:=vq50 g W M B A E i k) hmG (fun G R=>by kernel_rfl) ?_;unfold vq50;try dsimp only
  simp only[Ty.dflt,hii,hll,Nt_Mi,List.drop_zero,List.take_length,Nat.sub_zero,hs];by_cases hs2:s.2=true
  ·rw[if_pos hs2] at hr;subst hr;rw[hs2] at c94;simp only[hs2,Bool.not_true,Bool.not_false];simp (disch:=omega) only[oo,oop,oq,reduceCtorEq];repeat' first|with_reducible apply And.intro|intro _|rfl|omega|assumption|trivial|(exfalso;simp_all;done)
  ·have hs3:s.2=false:=by simpa using hs2
   rw[if_neg hs2] at hr;subst hr;have hg:=hx ha;rw[hs3] at c94;simp only[hs3,Bool.not_true,Bool.not_false];simp (disch:=omega) only[oo,oop,oq,reduceCtorEq];repeat' first|with_reducible apply And.intro|intro _|rfl|omega|assumption|trivial|(exfalso;simp_all;done)
 |succ z ih=>
  intro k k0 hk ha r hr;have hk1:IntKind.i64.wrap (k+1)=k+1:=wrG (by omega) (by omega);rw[drop_at (xs:=l) (i:=k) (0,0) k0 (by omega),List.any_cons] at hr ha;obtain⟨a,haa⟩:∃a,l.getD k.toNat (0,0)=a:=⟨_,rfl⟩;rw[haa] at hr ha;have c93:=d93R A E a.1 a.2 hE;have ea:((a.1,a.2):Int×Int)=a:=rfl;rw[ea] at c93;refine gets_vc spS (fun k=> [[1,2,7,8,9],[1,2,7,8,9,10]].getD k []) (fun _=> []) 400 (.fork (.fork .stop (.hd 1)) (.fork .stop (.hd 0))) (V:=vq50 g W M B A E i k) hmG (fun G R=>by kernel_rfl) ?_;unfold vq50;try dsimp only
  simp only[Ty.dflt,hk1,hll,haa,Nt_Mi,List.drop_zero,List.take_length,Nat.sub_zero];rw[ea];by_cases hp:pairOk A E a=true
  ·have ho:oddP A E a=false:=by unfold oddP;rw[hp];rfl
   rw[ho,Bool.false_or] at hr ha;have hg:=ih (k+1) (by omega) (by omega) ha r hr;rw[hp] at c93;simp only[hp,Bool.not_true];simp (disch:=omega) only[oo,oop,oq,reduceCtorEq];repeat' first|with_reducible apply And.intro|intro _|rfl|omega|assumption|trivial|(exfalso;simp_all;done)
  ·have hp':pairOk A E a=false:=by simpa using hp
   have ho:oddP A E a=true:=by unfold oddP;rw[hp'];rfl
   rw[ho,Bool.true_or,if_pos rfl] at hr;subst hr;rw[hp'] at c93;simp only[hp',Bool.not_false];simp (disch:=omega) only[oo,oop,oq,reduceCtorEq];repeat' first|with_reducible apply And.intro|intro _|rfl|omega|assumption|trivial|(exfalso;simp_all;done)
def vq51 (g:Gr) (W:List (List Int)) (M:List Nat) (B:List (List (Int×Int))) (A:List (Int×Int)) (E:List (Int×Int)) (i:Int) (G:GT) (R:RT):Prop:=let yy1:=(↑B.length:Int);let yy2:=((↑(List.length (B.getD (IntKind.i64.wrap (yy1-(1:Int))).toNat tQ.sl.dflt)):Int)>0);(decide (i<yy1)=true→sK r56 1∧G 1 (stOf 78 [1,2,7,8,9,10] [sL tQ.sl B,p0,o0 1 A.length,o0 2 E.length,vi i,vi 0] [lB 73 (gG g [sL tI.sl W,sL tU (Mi M)]),lD 61 tQ A,lD 61 tQ E]))∧(decide (i<yy1)=false→((yy1==(0:Int))=true→true=true∧R (D.tup [vi yy1,vi 151],[],[]))∧((yy1==(0:Int))=false→(0:Int)≤IntKind.i64.wrap (yy1-(1:Int))∧IntKind.i64.wrap (yy1-(1:Int))<yy1∧(decide yy2=true→R (D.tup [vi yy1,vi 151],[],[]))∧(decide yy2=false→R (D.tup [vi 0,vi 0],[],[]))))
theorem e56 (g:Gr) (W:List (List Int)) (M:List Nat) (B:List (List (Int×Int))) (A E:List (Int×Int)) (hc:checkP ⟨g,W,M⟩=0) (hM:Smalls M) (hA:A.length=M.length) (hE:E.length=A.length) (hBn:B.length≤65000) (hBl:∀l∈B,l.length≤8796093022208) (z:Nat):∀(i:Int),0≤i→i+z=B.length→(∀l∈B.take i.toNat,l.any (oddP A E)=false)→∀r,r=checkN ⟨g,W,M⟩ A E B z i→GetsK Tryd.prog Tryd.f56.results.toList [none,none] (KK r56) 0 (.tup [vi r.1,vi r.2],[],[]) 0 (stOf 78 [1,2,7,8,9] [slBd B,.ptr 0 0 0,o0 1 A.length,o0 2 E.length,vi i] [lB 73 (gG g [slW W,slU M]),lD 61 SeT A,lD 61 SeT E]):=by
 induction z with
 |zero=>
  intro i i0 hi ht r hr;refine gets_vc spS (fun k=> [[1,2,7,8,9],[1,2,7,8,9,10]].getD k []) (fun _=> []) 400 (.fork (.hd 1) (.fork (.t .stop) (.fork .stop .stop))) (V:=vq51 g W M B A E i) hmG (fun G R=>by kernel_rfl) ?_;unfold vq51;try dsimp only
  simp only[checkN] at hr;by_cases hb:B=[]
  ·rw[if_pos hb] at hr;subst hr;subst hb;have w1:((([]:List (List (Int×Int))).length:Int)==0)=true:=rfl;simp only[w1];simp (disch:=omega) only[oo,oop,oq,reduceCtorEq];repeat' first|with_reducible apply And.intro|intro _|rfl|omega|assumption|trivial|(exfalso;simp_all;done)
  ·rw[if_neg hb] at hr;have hl0:B.length≠0:=fun e=>hb (List.length_eq_zero_iff.1 e);have w1:((B.length:Int)==0)=false:=by rw[beq_eq_false_iff_ne];omega
   have w2:IntKind.i64.wrap ((B.length:Int)-1)=(B.length:Int)-1:=wrG (by omega) (by omega);have w3:((B.length:Int)-1).toNat=B.length-1:=by omega
   obtain⟨l,hll⟩:∃l,B.getD (B.length-1) []=l:=⟨_,rfl⟩;rw[hll] at hr;simp only[w1,w2,w3,Ty.dflt,hll];by_cases hz:l.length>0
   ·rw[if_pos hz] at hr;subst hr;have w4:decide ((l.length:Int)>0)=true:=decide_eq_true (by omega);simp only[w4];simp (disch:=omega) only[oo,oop,oq,reduceCtorEq];repeat' first|with_reducible apply And.intro|intro _|rfl|omega|assumption|trivial|(exfalso;simp_all;done)
   ·rw[if_neg hz] at hr;subst hr;have w4:decide ((l.length:Int)>0)=false:=decide_eq_false (by omega);simp only[w4];simp (disch:=omega) only[oo,oop,oq,reduceCtorEq];repeat' first|with_reducible apply And.intro|intro _|rfl|omega|assumption|trivial|(exfalso;simp_all;done)
 |succ z ih=>
  intro i i0 hi ht r hr;have hln:=hBl _ (getD_in (d:=([]:List (Int×Int))) (k:=i.toNat) (l:=B) (by omega));have hto:=take_odd (A:=A) (E:=E) (B:=B) (i:=i) i0 (by omega) ht;simp only[checkN] at hr;have hg:=e56b g W M B A E hc hM hA hE hBn hBl i i0 (by omega) ht _ rfl hln _ (fun ha=>ih (i+1) (by omega) (by omega) (hto ha) _ rfl) (B.getD i.toNat []).length 0 (by omega) (by omega) rfl r hr;refine gets_vc spS (fun k=> [[1,2,7,8,9],[1,2,7,8,9,10]].getD k []) (fun _=> []) 400 (.fork (.hd 1) (.fork (.t .stop) (.fork .stop .stop))) (V:=vq51 g W M B A E i) hmG (fun G R=>by kernel_rfl) ?_;unfold vq51;try dsimp only
  simp (disch:=omega) only[oo,oop,oq,reduceCtorEq];repeat' first|with_reducible apply And.intro|intro _|rfl|omega|assumption|trivial|(exfalso;simp_all;done)
theorem d55R (g:Gr) (W:List (List Int)) (M:List Nat) (B:List (List (Int×Int))) (hM:Smalls M) (hBl:∀l∈B,l.length≤8796093022208):Con Tryd.prog 55 [] [.agg (gG g [slW W,slU M]),slBd B] (.tup [vi (checkR ⟨g,W,M⟩ B).1,vi (checkR ⟨g,W,M⟩ B).2]) [] []:=by
 refine con_vc (how:=[none,none]) (c:=r55) (K:=(KK r55)) spS (fun _=> [1,2,9,29,30,31]) (fun _=> []) 400 (.fork .stop (.fork .stop (.hd 0))) (V:=fun G R=>let yy0:=(Pr.mk g W (Nt (Mi M)));cP 89 [] [D.agg (gG yy0.g [sL tI.sl yy0.W,sL tU (Mi yy0.M)])] (vi (checkP yy0)) [] []∧gS g yy0.g (W=yy0.W∧Mi M=Mi yy0.M∧((checkP yy0 !=(0:Int))=true→R (D.tup [vi 0,vi (checkP yy0)],[],[]))∧((checkP yy0 !=(0:Int))=false→(decide ((↑B.length:Int)>65000)=true→R (D.tup [vi 0,vi 2],[],[]))∧(decide ((↑B.length:Int)>65000)=false→cP 40 [] [D.agg (gG g [])] (D.tup [o0 0 (seatsF g).fst.length,o0 1 (seatsF g).snd.length]) [] [Row.data 61 tQ (seatsF g).fst,Row.data 61 tQ (seatsF g).snd]∧gS g g (sK r55 0∧G 0 (stOf 67 [1,2,9,29,30,31] [sL tQ.sl B,p0,D.fn 90 [D.ptr 1 0 0,D.ptr 2 0 0],sL tQ.sl B,vi B.length,vi 0] [lB 73 (gG g [sL tI.sl W,sL tU (Mi M)]),lB 55 [o0 3 (seatsF g).fst.length],lB 55 [o0 4 (seatsF g).snd.length],lD 61 tQ (seatsF g).fst,lD 61 tQ (seatsF g).snd])))))) hmG Tryd.func55 (by kernel_rfl) (by kernel_rfl) (fun G R=>by kernel_rfl) ?_
 try dsimp only
 try dsimp only
 have cc:=d62 g W M;have cs:=d77 g;obtain⟨r,hr⟩:∃r,checkR ⟨g,W,M⟩ B=r:=⟨_,rfl⟩;rw[hr];simp only[Nt_Mi];unfold checkR at hr;by_cases hc:checkP ⟨g,W,M⟩=0
 ·rw[if_pos hc] at hr;have w0:(checkP ⟨g,W,M⟩ !=0)=false:=by rw[hc];rfl
  rw[hc] at cc;by_cases hb:(B.length:Int)>65000
  ·rw[if_pos hb] at hr;subst hr;have w1:decide ((B.length:Int)>65000)=true:=decide_eq_true hb;simp only[w0,w1,hc];simp (disch:=omega) only[oo,oop,oq,reduceCtorEq];repeat' first|with_reducible apply And.intro|intro _|rfl|omega|assumption|trivial|(exfalso;simp_all;done)
  ·rw[if_neg hb] at hr;have w1:decide ((B.length:Int)>65000)=false:=decide_eq_false hb;have hs:=(seats_are (g:=g) (checkP_zero hc).1 (c:=0) (by omega)).2.2;have h4:=(checkP_zero hc).2.2.2;simp only at h4;have hg:=e55 g W M B (seatsF g).1 (seatsF g).2 hc hM (by omega) (by omega) (by omega) hBl B.length 0 (by omega) (by omega) (fun l hl=>by simp at hl) r hr.symm;simp only[w0,w1,hc];simp (disch:=omega) only[oo,oop,oq,reduceCtorEq];repeat' first|with_reducible apply And.intro|intro _|rfl|omega|assumption|trivial|(exfalso;simp_all;done)
 ·rw[if_neg hc] at hr;subst hr;have w0:(checkP ⟨g,W,M⟩ !=0)=true:=by rw[bne_iff_ne];exact hc
  simp only[w0];simp (disch:=omega) only[oo,oop,oq,reduceCtorEq];repeat' first|with_reducible apply And.intro|intro _|rfl|omega|assumption|trivial|(exfalso;simp_all;done)
theorem d56R (g:Gr) (W:List (List Int)) (M:List Nat) (B:List (List (Int×Int))) (hM:Smalls M) (hBl:∀l∈B,l.length≤8796093022208):Con Tryd.prog 56 [] [.agg (gG g [slW W,slU M]),slBd B] (.tup [vi (checkR ⟨g,W,M⟩ B).1,vi (checkR ⟨g,W,M⟩ B).2]) [] []:=by
 refine con_vc (how:=[none,none]) (c:=r56) (K:=(KK r56)) spS (fun k=> [[1,2,7,8,9],[1,2,7,8,9,10]].getD k []) (fun _=> []) 400 (.fork .stop (.fork .stop (.hd 0))) (V:=fun G R=>let yy0:=(Pr.mk g W (Nt (Mi M)));cP 60 [] [D.agg (gG yy0.g [sL tI.sl yy0.W,sL tU (Mi yy0.M)])] (vi (checkP yy0)) [] []∧gS g yy0.g (W=yy0.W∧Mi M=Mi yy0.M∧((checkP yy0 !=(0:Int))=true→R (D.tup [vi 0,vi (checkP yy0)],[],[]))∧((checkP yy0 !=(0:Int))=false→(decide ((↑B.length:Int)>65000)=true→R (D.tup [vi 0,vi 2],[],[]))∧(decide ((↑B.length:Int)>65000)=false→cP 41 [] [D.agg (gG g [])] (D.tup [o0 0 (seatsF g).fst.length,o0 1 (seatsF g).snd.length]) [] [Row.data 61 tQ (seatsF g).fst,Row.data 61 tQ (seatsF g).snd]∧gS g g (sK r56 0∧G 0 (stOf 78 [1,2,7,8,9] [sL tQ.sl B,p0,o0 1 (seatsF g).fst.length,o0 2 (seatsF g).snd.length,vi 0] [lB 73 (gG g [sL tI.sl W,sL tU (Mi M)]),lD 61 tQ (seatsF g).fst,lD 61 tQ (seatsF g).snd])))))) hmG Tryd.func56 (by kernel_rfl) (by kernel_rfl) (fun G R=>by kernel_rfl) ?_
 try dsimp only
 try dsimp only
 have cc:=d63 g W M;have cs:=d41D g;obtain⟨r,hr⟩:∃r,checkR ⟨g,W,M⟩ B=r:=⟨_,rfl⟩;rw[hr];simp only[Nt_Mi];unfold checkR at hr;by_cases hc:checkP ⟨g,W,M⟩=0
 ·rw[if_pos hc] at hr;have w0:(checkP ⟨g,W,M⟩ !=0)=false:=by rw[hc];rfl
  rw[hc] at cc;by_cases hb:(B.length:Int)>65000
  ·rw[if_pos hb] at hr;subst hr;have w1:decide ((B.length:Int)>65000)=true:=decide_eq_true hb;simp only[w0,w1,hc];simp (disch:=omega) only[oo,oop,oq,reduceCtorEq];repeat' first|with_reducible apply And.intro|intro _|rfl|omega|assumption|trivial|(exfalso;simp_all;done)
  ·rw[if_neg hb] at hr;have w1:decide ((B.length:Int)>65000)=false:=decide_eq_false hb;have hs:=(seats_are (g:=g) (checkP_zero hc).1 (c:=0) (by omega)).2.2;have h4:=(checkP_zero hc).2.2.2;simp only at h4;have hg:=e56 g W M B (seatsF g).1 (seatsF g).2 hc hM (by omega) (by omega) (by omega) hBl B.length 0 (by omega) (by omega) (fun l hl=>by simp at hl) r hr.symm;simp only[w0,w1,hc];simp (disch:=omega) only[oo,oop,oq,reduceCtorEq];repeat' first|with_reducible apply And.intro|intro _|rfl|omega|assumption|trivial|(exfalso;simp_all;done)
 ·rw[if_neg hc] at hr;subst hr;have w0:(checkP ⟨g,W,M⟩ !=0)=true:=by rw[bne_iff_ne];exact hc
  simp only[w0];simp (disch:=omega) only[oo,oop,oq,reduceCtorEq];repeat' first|with_reducible apply And.intro|intro _|rfl|omega|assumption|trivial|(exfalso;simp_all;done)
abbrev BT:Ty:= .sl SeT
def spT5:Sp:=fun f args rd=>match f,args with
 |54,[b]=>match slC rd BT [b] with
  |some B=>some {f:=54,args:=[slBd B],val:= .own 0 0 B.length none,allocs:=[.data 90 BT B],lent:=refsDs [b]}
  |none=>none
 |58,[a,b]=>match slC rd BT [a],slC rd BT [b] with
  |some A,some B=>some {f:=58,args:=[slBd A,slBd B],val:= .v (.bool (decide (A=B))),lent:=refsDs [a,b]}
  |_,_=>none
 |55,[.agg [.v (.int _ h),.v (.int _ w),b,r,l,ws,ms],bd]=>withP rd h w b r l ws ms fun p ls=>match slC rd BT [bd] with
  |some B=>some {f:=55,args:=[p.d,slBd B],val:= .tup [.v (.int .i64 (checkR p B).1),.v (.int .i64 (checkR p B).2)],lent:=ls++refsDs [bd]}
  |none=>none
 |56,[.agg [.v (.int _ h),.v (.int _ w),b,r,l,ws,ms],bd]=>withP rd h w b r l ws ms fun p ls=>match slC rd BT [bd] with
  |some B=>some {f:=56,args:=[p.d,slBd B],val:= .tup [.v (.int .i64 (checkR p B).1),.v (.int .i64 (checkR p B).2)],lent:=ls++refsDs [bd]}
  |none=>none
 |52,[]=>some {f:=52,args:=[],val:= .v (.bool true)}
 |f,args=>spS f args rd
noncomputable def r52:=bd Tryd.f52
def laidR (o:Option (List Int)):List Int×Bool:=match o with
 |some g=>(g,true)
 |none=>([],false)
def downN (M:List Nat) (V:List (List Int)) (S:List Slt) (F:List Int) (L:List (List Int)) (nd:Int):List (List Int)×Int:=downF M V S F (L,nd)
def spY:Sp:=fun f args rd=>match f,args with
 |148,[.agg [.v (.int _ h),.v (.int _ w),b,r,l,ws,ms],fx,.agg [.v (.int _ nu),.v (.bool dn),cs],x]=>withP rd h w b r l ws ms fun p ls=>match slC rd (.int .i64) [fx],slC rd (.int .i64) [cs],slC rd (.int .i64) [x] with
  |some F,some C,some X=>some {f:=148,args:=[p.d,slI F,.agg [.v (.int .i64 nu),.v (.bool dn),slI C],slI X],val:= .tup [.own 0 0 (laidR (wlayF p.M F C X F)).1.length none,.v (.bool (laidR (wlayF p.M F C X F)).2)],allocs:=[.data 3 (.int .i64) (laidR (wlayF p.M F C X F)).1],lent:=ls++refsDs [fx,cs,x]}
  |_,_,_=>none
 |134,[ws]=>match slC rd WT [ws] with
  |some W=>some {f:=134,args:=[slW W],val:= .own 0 0 (diffF [] W).length none,allocs:=[.data 27 WT (diffF [] W)]}
  |none=>none
 |133,[.agg [.v (.int _ h),.v (.int _ w),b,r,l,ws,ms],sl,vs,.v (.int _ k),fx,.own id _ _ _,.v (.int _ nd)]=>withP rd h w b r l ws ms fun p _=>match slC rd SlT [sl],slC rd WT [vs],slC rd (.int .i64) [fx],rd id with
  |some S,some V,some F,some (.data _ (.sl (.int .i64)) L)=>some {f:=133,pre:=[.data 27 WT L],args:=[p.d,slS S,slW V,.v (.int .i64 k),slI F,.own 0 0 (List.length L) none,.v (.int .i64 nd)],val:= .tup [.own 1 0 (downN p.M V (S.drop k.toNat) F L nd).1.length none,.v (.int .i64 (downN p.M V (S.drop k.toNat) F L nd).2)],post:=[none],allocs:=[.data 27 WT (downN p.M V (S.drop k.toNat) F L nd).1],cap:=[id],frz:=refsDs [fx]}
  |_,_,_,_=>none
 |133,[.agg [.v (.int _ h),.v (.int _ w),b,r,l,ws,ms],sl,vs,.v (.int _ k),fx,.v (.slice none 0 0),.v (.int _ nd)]=>withP rd h w b r l ws ms fun p _=>match slC rd SlT [sl],slC rd WT [vs],slC rd (.int .i64) [fx] with
  |some S,some V,some F=>some {f:=133,args:=[p.d,slS S,slW V,.v (.int .i64 k),slI F,.v (.slice none 0 0),.v (.int .i64 nd)],val:= .tup [.own 0 0 (downN p.M V (S.drop k.toNat) F [] nd).1.length none,.v (.int .i64 (downN p.M V (S.drop k.toNat) F [] nd).2)],allocs:=[.data 27 WT (downN p.M V (S.drop k.toNat) F [] nd).1],frz:=refsDs [vs,fx]}
  |_,_,_=>none
 |99,[.agg [.v (.int _ h),.v (.int _ w),b,r,l,ws,ms]]=>withP rd h w b r l ws ms fun p _=>some {f:=99,args:=[p.d],val:= .tup [.own 0 0 (smallF p).1.length none,.v (.int .i64 (smallF p).2)],allocs:=[.data 27 WT (smallF p).1]}
 |61,[.agg [.v (.int _ h),.v (.int _ w),b,r,l,ws,ms]]=>withP rd h w b r l ws ms fun p _=>some {f:=61,args:=[p.d],val:= .tup [.own 0 0 (smallF p).1.length none,.v (.bool (decide ((smallF p).2≤4000)))],allocs:=[.data 27 WT (smallF p).1]}
 |f,args=>spT5 f args rd
noncomputable def r148:=bd Tryd.f148
noncomputable def r134:=bd Tryd.f134
noncomputable def r133:=bd Tryd.f133
noncomputable def r99:=bd Tryd.f99
noncomputable def r61:=bd Tryd.f61
def tzI (m:Int):Int:=(listN m.toNat).headD 64
def nthN (m:Nat) (k:Int):Int:=if 0≤k∧k< ((listN m).length:Int) then(listN m).getD k.toNat 0 else-1
theorem wrap_mod (n:Int):IntKind.u64.wrap n=n%18446744073709551616:=by
 unfold IntKind.wrap;simp[IntKind.bits,IntKind.signed]
theorem tab_all:((List.range 64).all fun t=>tab64.getD (2^t*285870213051353865%18446744073709551616/288230376151711744) 0==(t:Int))=true:=by decide+kernel
theorem tab_at {t:Nat} (h:t<64):tab64.getD (2^t*285870213051353865%18446744073709551616/288230376151711744) 0=(t:Int):=by
 have:=List.all_eq_true.1 tab_all t (List.mem_range.2 h);simpa using this
theorem tz_at {m:Nat} (hm:m<W64) (h0:m≠0) {p:Int} (hp:p=(IntKind.u64.wrap (IntKind.u64.wrap ((BitVec.ofInt 64 (m:Int)&&&BitVec.ofInt 64 (IntKind.u64.wrap (0-(m:Int)))).toNat:Int)*285870213051353865)).fdiv (2^58)):
  0≤p∧p<64∧tab64.getD p.toNat 0=tzI m:=by
 obtain⟨t,ht,hneg,hl⟩:=list_step h0 hm;have e1:tzI (m:Int)=(t:Int):=by unfold tzI;rw[Int.toNat_natCast,hl];rfl
 have hm':m<18446744073709551616:=hm;have w1:IntKind.u64.wrap (0-(m:Int))=((W64-m:Nat):Int):=by
  rw[wrap_mod];show _=((18446744073709551616-m:Nat):Int);omega
 have w2:=andU (a:=m) (b:=W64-m) hm (by show 18446744073709551616-m<18446744073709551616;omega);rw[hneg] at w2;have w4:IntKind.u64.wrap (((2^t:Nat):Int)*285870213051353865)=((2^t*285870213051353865%18446744073709551616:Nat):Int):=by
  rw[wrap_mod];generalize 2^t=z
  omega
 have w5:∀z:Nat,Int.fdiv ((z:Nat):Int) (2^58)=((z/288230376151711744:Nat):Int):=by
  intro z;rw[Int.fdiv_eq_ediv_of_nonneg _ (by decide)];omega
 rw[w1,w2,wrU' (u64_mask ht),w4,w5] at hp;have htab:=tab_at ht;have hq:2^t*285870213051353865%18446744073709551616/288230376151711744<64:=by
  generalize 2^t*285870213051353865=z
  omega
 subst hp;rw[Int.toNat_natCast,e1];exact⟨Int.natCast_nonneg _,by omega,htab⟩
def vals (l:List Int):List (List Value):=l.map fun i=> [.int .i64 i]
def manyB (m:Nat):Bool:=m&&&(m-1) !=0
def findU:Int→List Nat→Int
 |_,[]=> -1
 |k,m::ms=>if manyB m then k else findU (k+1) ms
def lettersF (l:List Nat):List Int:=l.map fun m=>nthN m 0
abbrev RunS:=Int×List (List (Int×Int))×Bool
def kidsF (rec:List (Int×Int)→RunS→Int×RunS) (fx:List (Int×Int)) (c:Int):List Int→RunS→Int×RunS
 | [],s=>(0,(s.1,s.2.1++[fx],s.2.2))
 |i::is,s=>if(rec (fx++[(c,i)]) s).1=0 then kidsF rec fx c is (rec (fx++[(c,i)]) s).2 else rec (fx++[(c,i)]) s
def runB (p:Pr) (rec:List (Int×Int)→RunS→Int×RunS) (fx:List (Int×Int)) (s:RunS):Int×RunS:=
 if s.1+1>66000 then(2,(s.1+1,s.2)) else
 if(spreadG p fx s.2.1).2 then
  (if findU 0 (spreadG p fx s.2.1).1<0 then(1,(s.1+1,s.2.1,true))
   else kidsF rec fx (findU 0 (spreadG p fx s.2.1).1) (listN ((spreadG p fx s.2.1).1.getD (findU 0 (spreadG p fx s.2.1).1).toNat 0)) (s.1+1,s.2))
 else(0,(s.1+1,s.2.1++[fx],s.2.2))
def runF (p:Pr):Nat→List (Int×Int)→RunS→Int×RunS
 |0,_,s=>(2,(s.1+1,s.2))
 |n+1,fx,s=>runB p (runF p n) fx s
def runS (p:Pr) (fx:List (Int×Int)) (s:RunS):Int×RunS:=runF p (66000-s.1).toNat fx s
theorem kids_up {rec:List (Int×Int)→RunS→Int×RunS} (h:∀fx s,s.1< (rec fx s).2.1) {fx:List (Int×Int)} {c:Int}:∀(l:List Int) (s:RunS),s.1≤(kidsF rec fx c l s).2.1
 | [],s=>Int.le_refl _
 |i::l,s=>by
  simp only[kidsF];have h1:=h (fx++[(c,i)]) s;split
  ·exact Int.le_trans (by omega) (kids_up h l _)
  ·omega
theorem run_up (p:Pr):∀(n:Nat) (fx:List (Int×Int)) (s:RunS),s.1< (runF p n fx s).2.1
 |0,fx,s=>by simp only[runF];omega
 |n+1,fx,s=>by
  simp only[runF,runB];split
  ·simp only;omega
  ·split
   ·split
    ·simp only;omega
    ·exact Int.lt_of_lt_of_le (by simp only;omega) (kids_up (run_up p n) _ _)
   ·simp only;omega
theorem kids_congr {rec rec':List (Int×Int)→RunS→Int×RunS} {z:Int} (hup:∀fx s,s.1< (rec fx s).2.1) (h:∀fx s,z≤s.1→rec fx s=rec' fx s) {fx:List (Int×Int)} {c:Int}:∀(l:List Int) (s:RunS),z≤s.1→kidsF rec fx c l s=kidsF rec' fx c l s
 | [],s,_=>rfl
 |i::l,s,hs=>by
  simp only[kidsF];rw[←h _ s hs];have:=hup (fx++[(c,i)]) s;rw[kids_congr hup h l _ (by omega)]
theorem run_any (p:Pr):∀(n m:Nat) (fx:List (Int×Int)) (s:RunS),66000≤n+s.1→66000≤m+s.1→runF p n fx s=runF p m fx s
 |0,0,_,_,_,_=>rfl
 |0,m+1,fx,s,h,_=>by
  simp only[runF,runB];rw[if_pos (by omega)]
 |n+1,0,fx,s,_,h=>by
  simp only[runF,runB];rw[if_pos (by omega)]
 |n+1,m+1,fx,s,h1,h2=>by
  simp only[runF,runB];rw[kids_congr (z:=s.1+1) (run_up p n) (fun fx' s' h'=>run_any p n m fx' s' (by omega) (by omega)) _ (s.1+1,s.2) (by simp)]
theorem runS_eq (p:Pr) (fx:List (Int×Int)) (s:RunS):runS p fx s=runB p (runS p) fx s:=by
 unfold runS;by_cases h:s.1+1>66000
 ·have e:(66000-s.1).toNat=0:=by omega
  rw[e];simp only[runF,runB];rw[if_pos h]
 ·obtain⟨n,hn⟩:∃n,(66000-s.1).toNat=n+1:=⟨(66000-s.1).toNat-1,by omega⟩;rw[hn];simp only[runF,runB];rw[kids_congr (z:=s.1+1) (run_up p n) (fun fx' s' h'=>by
   show runF p n fx' s'=runF p (66000-s'.1).toNat fx' s';exact run_any p n _ fx' s' (by omega) (by omega)) _ (s.1+1,s.2) (by simp)]
theorem findU_at:∀(l:List Nat) (k:Int),0≤k→(findU k l= -1∧∀j,manyB (l.getD j 0)=false)∨∃j:Nat,findU k l=k+j∧j<l.length∧manyB (l.getD j 0)=true∧∀i,i<j→manyB (l.getD i 0)=false
 | [],k,_=> .inl ⟨rfl,fun j=>by simp[manyB]⟩
 |m::ms,k,hk=>by
  simp only[findU];split
  ·rename_i h;exact .inr ⟨0,by omega,by simp,h,fun i hi=>by omega⟩
  ·rename_i h;have h:manyB m=false:=by simpa using h
   rcases findU_at ms (k+1) (by omega) with⟨h1,h2⟩|⟨j,h1,h2,h3,h4⟩
   ·refine .inl ⟨h1,fun j=> ?_⟩;cases j with
    |zero=>exact h
    |succ j=>exact h2 j
   ·refine .inr ⟨j+1,by rw[h1];omega,by simpa using h2,h3,fun i hi=> ?_⟩;cases i with
    |zero=>exact h
    |succ i=>exact h4 i (by omega)
theorem spread_len {p:Pr} (hc:checkP p=0) (B:List (List (Int×Int))):∀(n:Nat) (q:List Nat),q.length=p.M.length→(spreadF p.g p.W B n q).1.length=p.M.length
 |0,q,h=>h
 |n+1,q,h=>by
  have hc':checkP ⟨p.g,p.W,q⟩=0:=by rw[again_check h];exact hc
  have e:=narM_len ⟨p.g,p.W,q⟩ hc';simp only at e;simp only[spreadF];split
  ·split
   ·rw[pass_len,e,h]
   ·split
    ·exact spread_len hc B n _ (by rw[pass_len,e,h])
    ·rw[pass_len,e,h]
  ·rw[e,h]
theorem spreadG_len {p:Pr} (hc:checkP p=0) (G:List (Int×Int)) (B:List (List (Int×Int))):(spreadG p G B).1.length=p.M.length:=spread_len hc B _ _ (given_len _ _)
theorem pass_small:∀(B:List (List (Int×Int))) (m:List Nat) (st:Int),Smalls m→Smalls (passF B m st).1
 | [],m,st,h=>h
 |l::ls,m,st,h=>by
  rw[pass_cons];split
  ·exact h
  ·split
   ·exact pass_small ls _ _ (letgo_small h _)
   ·exact pass_small ls m st h
theorem spread_small {p:Pr} (hc:checkP p=0) (B:List (List (Int×Int))):∀(n:Nat) (q:List Nat),q.length=p.M.length→Smalls q→Smalls (spreadF p.g p.W B n q).1
 |0,q,_,h=>h
 |n+1,q,hq,h=>by
  have hc':checkP ⟨p.g,p.W,q⟩=0:=by rw[again_check hq];exact hc
  have e:=narM_len ⟨p.g,p.W,q⟩ hc';simp only at e;have hn:Smalls (narM ⟨p.g,p.W,q⟩):=nar_small hc' h;simp only[spreadF];split
  ·split
   ·exact pass_small _ _ _ hn
   ·split
    ·exact spread_small hc B n _ (by rw[pass_len,e,hq]) (pass_small _ _ _ hn)
    ·exact pass_small _ _ _ hn
  ·exact hn
theorem spreadG_small {g:Gr} {W:List (List Int)} {M:List Nat} (hc:checkP ⟨g,W,M⟩=0) (hM:Smalls M) (G:List (Int×Int)) (B:List (List (Int×Int))):Smalls (spreadG ⟨g,W,M⟩ G B).1:=spread_small hc B _ _ (given_len _ _) (given_small _ hM)
def FxOk (n:Nat) (k:Int) (l:List (Int×Int)):Prop:=(l.length:Int)≤k∧∀x∈l,0≤x.1∧x.1<n
structure RunOk (n:Nat) (s:RunS):Prop where
 pos:0≤s.1
 len:(s.2.1.length:Int)≤s.1
 each:∀l∈s.2.1,FxOk n 66001 l
structure RunTo (n:Nat) (s:RunS) (r:Int×RunS):Prop where
 ok:RunOk n r.2
 up:s.1<r.2.1
 top:r.2.1≤66001
 more:r.1=0→r.2.1≤66000
 how:r.1=0∨r.1=1∨r.1=2
 grow:(r.2.2.1.length:Int)+s.1≤s.2.1.length+r.2.1
structure KidsTo (n:Nat) (s:RunS) (r:Int×RunS):Prop where
 ok:RunOk n r.2
 up:s.1≤r.2.1
 top:r.2.1≤66001
 more:r.1=0→r.2.1≤66000
 how:r.1=0∨r.1=1∨r.1=2
 grow:(r.2.2.1.length:Int)+s.1≤s.2.1.length+1+r.2.1
theorem FxOk.snoc {n:Nat} {z:Int} {fx:List (Int×Int)} (hz:FxOk n z fx) {c:Int} (hc:0≤c∧c<n) (i:Int):FxOk n (z+1) (fx++[(c,i)]):=
 ⟨by have:=hz.1;simp only[List.length_append,List.length_cons,List.length_nil];omega,fun x hx=>by
  rcases List.mem_append.1 hx with hx|hx
  ·exact hz.2 x hx
  ·rw[List.mem_singleton.1 hx];exact hc⟩
theorem FxOk.mono {n:Nat} {z w:Int} {fx:List (Int×Int)} (hz:FxOk n z fx) (h:z≤w):FxOk n w fx:=⟨Int.le_trans hz.1 h,hz.2⟩
theorem kids_ok {n:Nat} {rec:List (Int×Int)→RunS→Int×RunS} {fx:List (Int×Int)} {c:Int} (hc:0≤c∧c<n) {z:Int} (hz:FxOk n z fx)
  (h:∀fx s,RunOk n s→s.1≤66000→FxOk n s.1 fx→RunTo n s (rec fx s)):∀(l:List Int) (s:RunS),RunOk n s→z<s.1→s.1≤66000→(s.2.1.length:Int)+1≤s.1→KidsTo n s (kidsF rec fx c l s)
 | [],s,hs,h1,h2,h3=>by
  simp only[kidsF];refine⟨⟨hs.pos,by simp only[List.length_append,List.length_cons,List.length_nil];omega,fun l hl=> ?_⟩,Int.le_refl _,by simp only;omega,fun _=>h2,.inl rfl,by simp only[List.length_append,List.length_cons,List.length_nil];omega⟩;rcases List.mem_append.1 hl with hl|hl
  ·exact hs.each l hl
  ·rw[List.mem_singleton.1 hl];exact hz.mono (by omega)
 |i::l,s,hs,h1,h2,h3=>by
  have t:=h (fx++[(c,i)]) s hs h2 ((hz.snoc hc i).mono (by omega));have hup:=t.up;have hgr:=t.grow;simp only[kidsF];split
  ·rename_i h0;have k:=kids_ok hc hz h l _ t.ok (by omega) (t.more h0) (by omega);have ku:=k.up;have kg:=k.grow;exact⟨k.ok,by omega,k.top,k.more,k.how,by omega⟩
  ·rename_i h0;exact⟨t.ok,by omega,t.top,fun e=>absurd e h0,t.how,by omega⟩
theorem run_ok {p:Pr} (hc:checkP p=0):∀(k:Nat) (fx:List (Int×Int)) (s:RunS),RunOk p.M.length s→s.1≤66000→FxOk p.M.length s.1 fx→RunTo p.M.length s (runF p k fx s)
 |0,fx,s,hs,h1,h2=>by
  have hp:=hs.pos;have hl:=hs.len;simp only[runF];exact⟨⟨by simp only;omega,by simp only;omega,hs.each⟩,by simp only;omega,by simp only;omega,fun e=>absurd e (by simp),by simp,by simp only;omega⟩
 |k+1,fx,s,hs,h1,h2=>by
  have hp:=hs.pos;have hl:=hs.len;simp only[runF,runB];split
  ·exact⟨⟨by simp only;omega,by simp only;omega,hs.each⟩,by simp only;omega,by simp only;omega,fun e=>absurd e (by simp),by simp,by simp only;omega⟩
  ·split
   ·split
    ·exact⟨⟨by simp only;omega,by simp only;omega,hs.each⟩,by simp only;omega,by simp only;omega,fun e=>absurd e (by simp),by simp,by simp only;omega⟩
    ·rename_i hnf;rcases findU_at (spreadG p fx s.2.1).1 0 (by omega) with⟨e,_⟩|⟨j,e,hj,_,_⟩
     ·omega
     ·rw[spreadG_len hc] at hj;have q:=kids_ok (rec:=runF p k) (c:=findU 0 (spreadG p fx s.2.1).1) (by omega) h2 (run_ok hc k) (listN ((spreadG p fx s.2.1).1.getD (findU 0 (spreadG p fx s.2.1).1).toNat 0)) (s.1+1,s.2) ⟨by simp only;omega,by simp only;omega,hs.each⟩ (by simp only;omega) (by simp only;omega) (by simp only;omega);have qu:=q.up;have qg:=q.grow;simp only at qu qg;exact⟨q.ok,by omega,q.top,q.more,q.how,by omega⟩
   ·refine⟨⟨by simp only;omega,by simp only[List.length_append,List.length_cons,List.length_nil];omega,fun l hl=> ?_⟩,by simp only;omega,by simp only;omega,fun _=>by simp only;omega,by simp,by simp only[List.length_append,List.length_cons,List.length_nil];omega⟩;rcases List.mem_append.1 hl with hl|hl
    ·exact hs.each l hl
    ·rw[List.mem_singleton.1 hl];exact h2.mono (by omega)
theorem runS_ok {p:Pr} (hc:checkP p=0) (fx:List (Int×Int)) (s:RunS) (hs:RunOk p.M.length s) (h1:s.1≤66000) (h2:FxOk p.M.length s.1 fx):RunTo p.M.length s (runS p fx s):=run_ok hc _ fx s hs h1 h2
abbrev rowV (p:Pr) (q f:Nat) (n:Nat) (seen:Int):Row:= .box 129 [.fn 97 [.ptr q 0 0],vb true,.own f 0 n none,vi p.g.h,vi p.g.w,sL .bool p.g.B,sL .bool p.g.R,sL .bool p.g.L,slW p.W,slU p.M,vi seen]
def spZ:Sp:=fun f args rd=>match f,args with
 |73,[.v (.int _ m)]=>some {f:=73,args:=[.v (.int .u64 m)],val:= .v (.int .i64 (tzI m))}
 |21,[.v (.int _ m)]=>some {f:=21,args:=[.v (.int .u64 m)],val:= .fn 72 [.rptr [.v (.int .u64 m)]]}
 |34,[.v (.int _ m),.v (.int _ k)]=>some {f:=34,args:=[.v (.int .u64 m),.v (.int .i64 k)],val:= .v (.int .i64 (nthN m.toNat k))}
 |130,[.v (.int _ m)]=>some {f:=130,args:=[.v (.int .u64 m)],val:= .v (.bool (manyB m.toNat))}
 |129,[l,.fn 130 []]=>match slC rd (.int .u64) [l] with
  |some M=>some {f:=129,args:=[slU (Nt M),.fn 130 []],val:= .v (.int .i64 (findU 0 (Nt M))),lent:=refsDs [l]}
  |none=>none
 |131,[l]=>match slC rd (.int .u64) [l] with
  |some M=>some {f:=131,args:=[slU (Nt M)],val:= .own 0 0 (lettersF (Nt M)).length (some (lettersF (Nt M)).length),allocs:=[.data 3 (.int .i64) (lettersF (Nt M))],lent:=refsDs [l]}
  |none=>none
 |132,[.sl false false t L]=>match slC rd SeT [.sl false false t L] with
  |some X=>some {f:=132,args:=[slQ X],val:= .sl false true SeT X}
  |none=>none
 |147,[l]=>match slC rd SeT [l] with
  |some X=>some {f:=147,args:=[slQ X],val:= .own 0 0 X.length none,allocs:=[.data 92 SeT X],lent:=refsDs [l]}
  |none=>none
 |97,[x,.ptr q _ _]=>match slC rd (.int .i64) [x],rd q with
  |some X,some (.box _ [.v (.bool b)])=>some {f:=97,pre:=[.box 4 [.v (.bool b)]],args:=[slI X,.ptr 0 0 0],val:= .v (.bool false),post:=[some (.box 4 [.v (.bool true)])],cap:=[q],frz:=refsDs [x]}
  |_,_=>none
 |128,[.ptr s _ _,x]=>match slC rd SeT [x],rd s with
  |some X,some (.box _ [.fn 97 [.ptr q _ _],.v (.bool true),.own f _ _ _,.v (.int _ h),.v (.int _ w),b,r,l,ws,ms,.v (.int _ seen)])=>withP rd h w b r l ws ms fun p _=>match rd f,rd q with
   |some (.data _ (.sl (.prod (.int .i64) (.int .i64))) F),some (.box _ [.v (.bool fb)])=>some {f:=128,pre:=[rowV p 2 1 (List.length F) seen,.data 90 BT F,.box 4 [.v (.bool fb)]],args:=[.ptr 0 0 0,slQ X],val:= .tup [],post:=[some (rowV p 2 3 (List.length F+1) seen),none,some (.box 4 [.v (.bool fb)])],allocs:=[.data 90 BT (F++[X])],cap:=[s,f,q]}
   |_,_=>none
  |_,_=>none
 |127,[x,.ptr a _ _,.ptr d _ _]=>match slC rd SeT [x],rd a,rd d with
  |some X,some (.box _ [.ptr s _ _]),some (.box _ [.fn 127 [.ptr _ _ _,.ptr _ _ _]])=>(match rd s with
   |some (.box _ [.fn 97 [.ptr q _ _],.v (.bool true),.own f _ _ _,.v (.int _ h),.v (.int _ w),b,r,l,ws,ms,.v (.int _ seen)])=>withP rd h w b r l ws ms fun p _=>match rd f,rd q with
    |some (.data _ (.sl (.prod (.int .i64) (.int .i64))) F),some (.box _ [.v (.bool fb)])=>some {f:=127,pre:=[.box 125 [.ptr 2 0 0],.box 159 [.fn 127 [.ptr 0 0 0,.ptr 1 0 0]],rowV p 4 3 (List.length F) seen,.data 90 BT F,.box 4 [.v (.bool fb)]],args:=[slQ X,.ptr 0 0 0,.ptr 1 0 0],val:= .v (.int .i64 (runS p X (seen,F,fb)).1),post:=[some (.box 125 [.ptr 2 0 0]),some (.box 159 [.fn 127 [.ptr 0 0 0,.ptr 1 0 0]]),some (rowV p 4 5 (runS p X (seen,F,fb)).2.2.1.length (runS p X (seen,F,fb)).2.1),none,some (.box 4 [.v (.bool (runS p X (seen,F,fb)).2.2.2)])],allocs:=[.data 90 BT (runS p X (seen,F,fb)).2.2.1],cap:=[a,d,s,f,q],frz:=refsDs [x]}
    |_,_=>none
   |_=>none)
  |_,_,_=>none
 |98,[.ptr s _ _]=>match rd s with
  |some (.box _ [.fn 97 [.ptr q _ _],.v (.bool true),.own f _ _ _,.v (.int _ h),.v (.int _ w),b,r,l,ws,ms,.v (.int _ seen)])=>withP rd h w b r l ws ms fun p _=>match rd f,rd q with
   |some (.data _ (.sl (.prod (.int .i64) (.int .i64))) F),some (.box _ [.v (.bool fb)])=>some {f:=98,pre:=[rowV p 2 1 (List.length F) seen,.data 90 BT F,.box 4 [.v (.bool fb)]],args:=[.ptr 0 0 0],val:= .v (.bool ((runS p [] (seen,F,fb)).1 !=2)),post:=[some (rowV p 2 3 (runS p [] (seen,F,fb)).2.2.1.length (runS p [] (seen,F,fb)).2.1),none,some (.box 4 [.v (.bool (runS p [] (seen,F,fb)).2.2.2)])],allocs:=[.data 90 BT (runS p [] (seen,F,fb)).2.2.1],cap:=[s,f,q]}
   |_,_=>none
  |_=>none
 |f,args=>if f=1000002 then(match args with
  | [.sl _ true _ _,_]=>some {f:=0,args:=[],val:= .top}
  |_=>none) else spY f args rd
noncomputable def u73:=bd Tryd.f73
noncomputable def u72:=bd Tryd.f72
noncomputable def u21:=bd Tryd.f21
noncomputable def u34:=bd Tryd.f34
noncomputable def u130:=bd Tryd.f130
noncomputable def u129:=bd Tryd.f129
noncomputable def u131:=bd Tryd.f131
noncomputable def u132:=bd Tryd.f132
noncomputable def u147:=bd Tryd.f147
noncomputable def u97:=bd Tryd.f97
noncomputable def u128:=bd Tryd.f128
noncomputable def u127:=bd Tryd.f127
noncomputable def u98:=bd Tryd.f98
noncomputable def u96:=bd Tryd.f96
noncomputable def u59:=bd Tryd.f59
noncomputable def u13:=bd Tryd.f13
theorem room90U {n:Nat} (h:n≤5864062014805):roomy Tryd.prog 90 n:=by
 unfold roomy;rw[show Tryd.prog.bytesOf 90=24 by kernel_rfl];omega
theorem con_nn2 {P:Program} {f:FuncId} {pre:List Row} {t:Ty} {xs:List t.El} {val:D} {post:List (Option Row)} {allocs:List Row} (h:Con P f pre [.sl true false t xs] val post allocs) (h0:xs=[]→Con P f pre [.v (.slice none 0 0)] val post allocs):Con P f pre [sL t xs] val post allocs:=by
 refine⟨h.fn,fun w ρ S vs M hargs=> ?_⟩;have hargs':=hargs;simp only[RelDs,RelD] at hargs';obtain⟨u,us',e,⟨A,c,us,e2,h1,h2,h3,h4,h5,h6⟩,hr⟩:=hargs';cases hA:A with
 |some a=>
  refine h.run w ρ S vs M ?_;simp only[RelDs,RelD];exact⟨u,us',e,⟨A,c,us,e2,h1,h2,fun _ e=>(by rw[hA] at e;cases e),h4,h5,h6⟩,hr⟩
 |none=>
  have hc:=h2 hA;have hx:xs=[]:=List.eq_nil_of_length_eq_zero (by omega);refine(h0 hx).run w ρ S vs M ?_;simp only[RelDs,RelD];refine⟨u,us',e,?_,hr⟩;rw[e2,hA,hc,hx];rfl
theorem d73U (m:Nat) (hm:m<W64) (h0:m≠0):Con Tryd.prog 73 [] [u64 m] ((vi (tzI m))) [] []:=by
 refine con_vc (how:=[none]) (c:=u73) (K:=(KK u73)) spZ (fun _=> []) (fun _=> []) 400 (.fork .stop .stop) (V:=fun G R=>let yy0:=(IntKind.u64.wrap (IntKind.u64.wrap (↑(BitVec.ofInt 64 (↑m:Int)&&&BitVec.ofInt 64 (IntKind.u64.wrap ((0:Int)-(↑m:Int)))).toNat:Int)*(285870213051353865:Int)));(((↑m:Int)==0)=true→R (vi 64,[],[]))∧(((↑m:Int)==0)=false→¬(58:Int)<0∧(0:Int)≤yy0.fdiv ((2:Int)^58)∧yy0.fdiv ((2:Int)^58)< (↑64:Int)∧R (vi (IntKind.i64.wrap ([(0:Int),(1:Int),(56:Int),(2:Int),(57:Int),(49:Int),(28:Int),(3:Int),(61:Int),(58:Int),(42:Int),(50:Int),(38:Int),(29:Int),(17:Int),(4:Int),(62:Int),(47:Int),(59:Int),(36:Int),(45:Int),(43:Int),(51:Int),(22:Int),(53:Int),(39:Int),(33:Int),(30:Int),(24:Int),(18:Int),(12:Int),(5:Int),(63:Int),(55:Int),(48:Int),(27:Int),(60:Int),(41:Int),(37:Int),(16:Int),(46:Int),(35:Int),(44:Int),(21:Int),(52:Int),(32:Int),(23:Int),(11:Int),(54:Int),(26:Int),(40:Int),(15:Int),(34:Int),(20:Int),(31:Int),(10:Int),(25:Int),(14:Int),(19:Int),(9:Int),(13:Int),(8:Int),(7:Int),(6:Int)].getD (yy0.fdiv ((2:Int)^58)).toNat (0:Int))),[],[]))) hmG Tryd.func73 (by kernel_rfl) (by kernel_rfl) (fun G R=>by kernel_rfl) ?_
 try dsimp only
 try dsimp only
 have hz:=fun p hp=>tz_at hm h0 (p:=p) hp;refine⟨fun h=> ?_,fun _=>⟨by omega,(hz _ rfl).1,(hz _ rfl).2.1,?_⟩⟩
 ·rw[beq_iff_eq] at h;omega
 ·have h3:=(hz _ rfl).2.2;have hb:0≤tzI m∧tzI m≤64:=by
   obtain⟨t,ht,_,hl⟩:=list_step h0 hm;unfold tzI;rw[Int.toNat_natCast,hl];show 0≤(t:Int)∧(t:Int)≤64;omega
  show(vi (IntKind.i64.wrap (tab64.getD _ 0)),_,_)=_;rw[h3,wrG (by omega) (by omega)]
theorem d21Ur (m:Nat):Con Tryd.prog 21 [] [u64 m] ((.fn 72 [.ptr 0 0 0])) [] [.box 22 [u64 m]]:=by
 refine con_vc (how:=[none]) (c:=u21) (K:=(KK u21)) spZ (fun _=> []) (fun _=> []) 400 .stop (V:=fun G R=>R (D.fn 72 [p0],[],[Row.box 22 [D.v (Value.int .u64 (↑m:Int))]])) hmG Tryd.func21 (by kernel_rfl) (by kernel_rfl) (fun G R=>by kernel_rfl) ?_;try dsimp only
 rfl
theorem d21U (m:Nat):Con Tryd.prog 21 [] [u64 m] (.fn 72 [.rptr [u64 m]]) [] []:=con_frz (cs:=[.int .u64 m]) (d21Ur m)
theorem it72 (m:Nat) (hm:m<W64):IterP Tryd.prog 72 [.rptr [u64 m]] (vals (listN m)):=by
 refine iter_of Tryd.func72 (by kernel_rfl) (c:=u72) (by kernel_rfl) (by kernel_rfl) ?_;intro l J Jx hJU hJg hJxg hY;have hlen:(vals (listN m)).length=(listN m).length:=by unfold vals;rw[List.length_map]
 rw[hlen];have loop:∀(n i r:Nat),r<W64→(listN r).length=n→i+n=(listN m).length→(∀j:Nat,(listN m)[i+j]? =(listN r)[j]?)→Goes Tryd.prog (itGoal Tryd.prog J Jx (listN m).length i) 0 (KX u72 0) (stOf 16 [0,1,3] [.v (.func (.yield l) #[] #[]),.rptr [u64 m],.v (.int .u64 (r:Int))] []):=by
  intro n;induction n with
  |zero=>
   intro i r hr hn hi hx;have h0:r=0:=by
    by_cases h:r=0
    ·exact h
    ·obtain⟨t,_,_,hl⟩:=list_step h hr;rw[hl] at hn;simp at hn
   refine it_vc (K:=(KX u72)) spZ (fun k=>if k=0 then [0,1,3] else [0,1,3]) (fun _=> []) 400 (.fork (.cut 202) .stop) (V:=fun G E=>(((↑r:Int) !=0)=true→SameK (KX u72 202) (KX u72 202)∧G 202 (stOf 16 [0,1,3] [D.v (Value.func (Fn.yield l) (Array.mk []) (Array.mk [])),D.rptr [D.v (Value.int .u64 (↑m:Int))],D.v (Value.int .u64 (↑r:Int))] []))∧(((↑r:Int) !=0)=false→E none (St.mk [D.v (Value.func (Fn.yield l) (Array.mk []) (Array.mk [])),D.rptr [D.v (Value.int .u64 (↑m:Int))],D.top,D.v (Value.int .u64 (↑r:Int)),D.top,D.v (Value.int .u64 (↑r:Int)),vb ((↑r:Int) !=0),D.top,D.top,D.top,D.top,D.top,D.top,D.top,D.top,D.top] []))) hmG (hJg) (fun G E=>by kernel_rfl) ?_;subst h0;refine⟨fun h=>by simp at h,fun _=> ?_⟩;show i=(listN m).length;omega
  |succ n ih=>
   intro i r hr hn hi hx;have h0:r≠0:=by
    rintro rfl
    rw[list_zero] at hn;simp at hn
   obtain⟨t,ht,hneg,hl⟩:=list_step h0 hr;refine it_vc (K:=(KX u72)) spZ (fun k=>if k=0 then [0,1,3] else [0,1,3]) (fun _=> []) 400 (.fork (.cut 202) .stop) (V:=fun G E=>(((↑r:Int) !=0)=true→SameK (KX u72 202) (KX u72 202)∧G 202 (stOf 16 [0,1,3] [D.v (Value.func (Fn.yield l) (Array.mk []) (Array.mk [])),D.rptr [D.v (Value.int .u64 (↑m:Int))],D.v (Value.int .u64 (↑r:Int))] []))∧(((↑r:Int) !=0)=false→E none (St.mk [D.v (Value.func (Fn.yield l) (Array.mk []) (Array.mk [])),D.rptr [D.v (Value.int .u64 (↑m:Int))],D.top,D.v (Value.int .u64 (↑r:Int)),D.top,D.v (Value.int .u64 (↑r:Int)),vb ((↑r:Int) !=0),D.top,D.top,D.top,D.top,D.top,D.top,D.top,D.top,D.top] []))) hmG (hJg) (fun G E=>by kernel_rfl) ?_;refine⟨fun _=>⟨SameK.same _,?_⟩,fun h=>by simp at h;omega⟩;show Goes Tryd.prog (itGoal Tryd.prog J Jx (listN m).length i) 0 (RR u72 2) _;have hxt:(vals (listN m))[i]? =some [.int .i64 (t:Int)]:=by
    have:=hx 0;rw[Nat.add_zero,hl] at this;unfold vals;rw[List.getElem?_map,this];rfl
   refine it_round_vc spZ (fun k=>if k=0 then [0,1,3] else [0,1,3]) (fun _=> []) 400 3 (.f (.hd 0)) (.t .stop) (V:=fun G E G' E'=>cP 73 [] [D.v (Value.int .u64 (↑r:Int))] (vi (tzI (↑r:Int))) [] []∧Value.int .u64 (↑r:Int)=Value.int .u64 (↑r:Int)∧D.v (Value.func (Fn.yield l) (Array.mk []) (Array.mk []))=D.v (Value.func (Fn.yield l) (Array.mk []) (Array.mk []))∧[vi (tzI (↑r:Int))]=[vi t]∧((!true)=false∧SameK (KX u72 0) (KX u72 0)∧G 0 (stOf 16 [0,1,3] [D.v (Value.func (Fn.yield l) (Array.mk []) (Array.mk [])),D.rptr [D.v (Value.int .u64 (↑m:Int))],D.v (Value.int .u64 (IntKind.u64.wrap (↑(BitVec.ofInt 64 (↑r:Int)&&&BitVec.ofInt 64 (IntKind.u64.wrap ((↑r:Int)-1))).toNat:Int)))] []))∧(!false)=true∧E' (some Code.ret) (St.mk [D.v (Value.func (Fn.yield l) (Array.mk []) (Array.mk [])),D.rptr [D.v (Value.int .u64 (↑m:Int))],D.top,D.v (Value.int .u64 (↑r:Int)),D.top,D.top,D.top,D.top,D.top,D.top,D.top,D.v (Value.func (Fn.yield l) (Array.mk []) (Array.mk [])),D.v (Value.int .u64 (↑r:Int)),vi (tzI (↑r:Int)),vb false,vb !false] [Slot.free,Slot.free,Slot.free,Slot.free,Slot.free,Slot.free,Slot.free,Slot.free,Slot.free,Slot.free,Slot.free,Slot.free,Slot.free,Slot.free,Slot.free,Slot.free])) hmG hJU hJg hJxg hY hxt ⟨3,by kernel_rfl⟩ (fun G E G' E'=>by kernel_rfl) ?_;have c:=d73U r hr h0;have e1:tzI (r:Int)=(t:Int):=by unfold tzI;rw[Int.toNat_natCast,hl];rfl
   have hr':r<18446744073709551616:=hr;have w1:IntKind.u64.wrap ((r:Int)-1)=((r-1:Nat):Int):=by
    have e:(r:Int)-1=((r-1:Nat):Int):=by omega
    rw[e];exact wrU' (Nat.lt_of_le_of_lt (Nat.sub_le _ _) hr)
   have w2:=andU (a:=r) (b:=r-1) hr (Nat.lt_of_le_of_lt (Nat.sub_le _ _) hr);have w3:IntKind.u64.wrap ((r&&&(r-1):Nat):Int)=((r&&&(r-1):Nat):Int):=wrU' (and_lt hr);rw[hl] at hn;have hgo:=ih (i+1) (r&&&(r-1)) (and_lt hr) (by simpa using hn) (by omega) (fun j=>by
    have:=hx (j+1);rw[hl,List.getElem?_cons_succ] at this;rw[←this];congr 1
    omega)
   rw[w1,w2,w3,e1];rw[e1] at c;simp only[sameK_iff,Bool.not_true,Bool.not_false,true_and,and_true];exact⟨c,hgo,trivial⟩
 refine it_vc (K:=(KX u72)) spZ (fun k=>if k=0 then [0,1,3] else [0,1,3]) (fun _=> []) 400 (.hd 0) (V:=fun G E=>SameK (KX u72 0) (KX u72 0)∧G 0 (stOf 16 [0,1,3] [D.v (Value.func (Fn.yield l) (Array.mk []) (Array.mk [])),D.rptr [D.v (Value.int .u64 (↑m:Int))],D.v (Value.int .u64 (↑m:Int))] [])) hmG (hJg) (fun G E=>by kernel_rfl) ?_;exact⟨SameK.same _,loop _ 0 m hm rfl (by omega) (fun j=>by rw[Nat.zero_add])⟩
theorem r34 (m:Nat) (k:Int) (hk: -9223372036854775808≤k∧k<9223372036854775808):∀(zs ys:List Int),ys++zs=listN m→(k<0∨(ys.length:Int)≤k)→RndsK Tryd.prog u34 Tryd.f34.results.toList [none] 0 (vi (nthN m k),[],[]) 0 (vals zs) (stOf 14 [3,4,7] [.ptr 0 0 0,.ptr 1 0 0,.fn 72 [.rptr [u64 m]]] [lB 3 [vi (IntKind.i64.wrap (k-(ys.length:Int)))],lB 3 [vi 0]]):=by
 intro zs;induction zs with
 |nil=>
  intro ys h hn;refine rndsK_nil (by decide) ?_;refine gets_vc spZ (fun _=> []) (fun _=> []) 400 .stop (V:=fun G R=>R (vi (-1),[],[])) hmG (fun G R=>by kernel_rfl) ?_;have e:nthN m k= -1:=by
   unfold nthN;rw[List.append_nil] at h;rw[if_neg];rw[←h];omega
  show _=_;rw[e]
 |cons z zs ih=>
  intro ys h hn;have hl:ys.length<64:=by have:=list_len m;rw[←h] at this;simp at this;omega
  have hw:∃n,n=IntKind.i64.wrap (k-(ys.length:Int))∧(n=0↔k=ys.length)∧IntKind.i64.wrap (n-1)=IntKind.i64.wrap (k-((ys.length+1:Nat):Int)):=by
   refine⟨_,rfl,?_,?_⟩
   ·rw[IntKind.wrap_i64];omega
   ·rw[IntKind.wrap_i64,IntKind.wrap_i64,IntKind.wrap_i64];omega
  obtain⟨n,h1,h2,h3⟩:=hw;rw[←h1];refine rndsK_cons spZ [3,4,5] (fun _=> [3,4,7]) (fun _=> []) 400 (.fork .stop .stop) (V:=fun GN GJ=>SameK [Item.beginRound,Item.code (rfB (FF u34 0))] [Item.beginRound,Item.code (rfB (FF u34 0))]∧((n==(0:Int))=true→GJ Code.ret (stOf 14 [3,4,7] [p0,D.ptr 1 0 0,D.fn 72 [D.rptr [D.v (Value.int .u64 (↑m:Int))]]] [lB 3 [vi n],lB 3 [vi z]]))∧((n==(0:Int))=false→GN (stOf 14 [3,4,7] [p0,D.ptr 1 0 0,D.fn 72 [D.rptr [D.v (Value.int .u64 (↑m:Int))]]] [lB 3 [vi (IntKind.i64.wrap (n-1))],lB 3 [vi 0]]))) hmG (by decide) (by rfl) (fun GN GJ=>by kernel_rfl) ?_;refine⟨SameK.same _,fun h4=> ?_,fun h4=> ?_⟩
  ·rw[beq_iff_eq] at h4;have h5:=h2.1 h4;refine gets_vc spZ (fun _=> []) (fun _=> []) 400 .stop (V:=fun G R=>R (vi z,[],[])) hmG (fun G R=>by kernel_rfl) ?_;have e:nthN m k=z:=by
    unfold nthN;rw[←h,if_pos ⟨by omega,by rw[h5];simp;omega⟩,h5];simp
   show _=_;rw[e]
  ·rw[beq_eq_false_iff_ne] at h4;rw[h3];have:=ih (ys++[z]) (by simpa using h) (by
    have:¬k=ys.length:=fun hk=>h4 (h2.2 hk);simp;omega)
   rw[List.length_append] at this;exact this
theorem d34U (m:Nat) (k:Int) (hm:m<W64) (hk: -9223372036854775808≤k∧k<9223372036854775808):Con Tryd.prog 34 [] [u64 m,vi k] ((vi (nthN m k))) [] []:=by
 refine con_vc (how:=[none]) (c:=u34) (K:=(KX u34)) spZ (fun _=> [3,4,7]) (fun _=> []) 400 (.cut 100) (V:=fun G R=>cP 21 [] [D.v (Value.int .u64 (↑m:Int))] (D.fn 72 [D.rptr [D.v (Value.int .u64 (↑m:Int))]]) [] []∧Value.int .u64 (↑m:Int)=Value.int .u64 (↑m:Int)∧SameK (KX u34 100) (KX u34 100)∧G 100 (stOf 14 [3,4,7] [p0,D.ptr 1 0 0,D.fn 72 [D.rptr [D.v (Value.int .u64 (↑m:Int))]]] [lB 3 [vi k],lB 3 [vi 0]])) hmG Tryd.func34 (by kernel_rfl) (by kernel_rfl) (fun G R=>by kernel_rfl) ?_;try dsimp only
 refine⟨d21U m,rfl,SameK.same _,?_⟩;refine getsK_range (i:=0) (by decide) rfl rfl ⟨rfl,rfl⟩ (it72 m hm) ?_;have:=r34 m k hk _ [] rfl (by simp;omega);rw[List.length_nil,show k-((0:Nat):Int)=k by omega,wrG hk.1 (by omega)] at this;exact this
theorem d130U (m:Nat) (hm:m<W64):Con Tryd.prog 130 [] [u64 m] (vb (manyB m)) [] []:=by
 refine con_vc (how:=[none]) (c:=u130) (K:=(KK u130)) spZ (fun _=> []) (fun _=> []) 400 .stop (V:=fun G R=>R (vb (IntKind.u64.wrap (↑(BitVec.ofInt 64 (↑m:Int)&&&BitVec.ofInt 64 (IntKind.u64.wrap ((↑m:Int)-1))).toNat:Int) !=0),[],[])) hmG Tryd.func130 (by kernel_rfl) (by kernel_rfl) (fun G R=>by kernel_rfl) ?_;try dsimp only
 have e:((BitVec.ofInt 64 (m:Int)&&&BitVec.ofInt 64 (IntKind.u64.wrap ((m:Int)-1))).toNat:Int)=((m&&&(m-1):Nat):Int):=by
  by_cases h0:m=0
  ·subst h0;rfl
  ·have hm':m<18446744073709551616:=hm;have w1:IntKind.u64.wrap ((m:Int)-1)=((m-1:Nat):Int):=by
    rw[show(m:Int)-1=((m-1:Nat):Int) by omega];exact wrU' (Nat.lt_of_le_of_lt (Nat.sub_le _ _) hm)
   rw[w1,andU (a:=m) (b:=m-1) hm (Nat.lt_of_le_of_lt (Nat.sub_le _ _) hm)]
 rw[e,wrU' (and_lt hm)];have e2:(((m&&&(m-1):Nat):Int) !=0)=manyB m:=by
  unfold manyB;rw[cast_bne0]
 rw[e2]
def vq52 (M:List Nat) (k:Int) (G:GT) (R:RT):Prop:=let yy0:=((Mi M).getD k.toNat tU.dflt);(decide (k<M.length)=true→0≤k∧k< (↑(Mi M).length:Int)∧cP 130 [] [D.v (Value.int .u64 yy0)] (vb (manyB (Int.toNat yy0))) [] []∧Value.int .u64 yy0=Value.int .u64 yy0∧(manyB (Int.toNat yy0)=true→R (vi k,[],[]))∧(manyB (Int.toNat yy0)=false→sK u129 0∧G 0 (stOf 19 [0,1,6,7,8] [sL tU (Mi M),D.fn 130 [],sL tU (Mi M),vi M.length,vi (IntKind.i64.wrap (k+1))] [])))∧(decide (k<M.length)=false→R (vi (-1),[],[]))
theorem e129 (M:List Nat) (hM:Smalls M) (hl:M.length≤1000000) (z:Nat):∀(k:Int),0≤k→k+z=M.length→∀r,r=findU k (M.drop k.toNat)→GetsK Tryd.prog Tryd.f129.results.toList [none] (KK u129) 0 (vi r,[],[]) 0 (stOf 19 [0,1,6,7,8] [slU M,.fn 130 [],slU M,vi M.length,vi k] []):=by
 induction z with
 |zero=>
  intro k k0 hk r hr;rw[List.drop_eq_nil_of_le (by omega)] at hr;have hr:r= -1:=hr;subst hr;refine gets_vc spZ (fun _=> [0,1,6,7,8]) (fun _=> []) 400 (.fork (.fork .stop (.hd 0)) .stop) (V:=vq52 M k) hmG (fun G R=>by kernel_rfl) ?_;unfold vq52;try dsimp only
  simp (disch:=omega) only[oo,oop,oq,reduceCtorEq];repeat' first|with_reducible apply And.intro|intro _|rfl|omega|assumption|trivial|(exfalso;simp_all;done)
 |succ z ih=>
  intro k k0 hk r hr;have hk1:IntKind.i64.wrap (k+1)=k+1:=wrG (by omega) (by omega);rw[drop_at (xs:=M) (i:=k) 0 k0 (by omega)] at hr;have h1:=ih (k+1) (by omega) (by omega) _ rfl;obtain⟨a,ha⟩:∃a,M.getD k.toNat 0=a:=⟨_,rfl⟩;have has:=hM.at k.toNat;rw[ha] at hr has;have c1:=d130U a has;unfold u64 at c1;have w:decide (k< (M.length:Int))=true:=decide_eq_true (by omega);refine gets_vc spZ (fun _=> [0,1,6,7,8]) (fun _=> []) 400 (.fork (.fork .stop (.hd 0)) .stop) (V:=vq52 M k) hmG (fun G R=>by kernel_rfl) ?_;unfold vq52;try dsimp only
  simp only[w,Ty.dflt,hk1,zz,Mi_take,ha];by_cases hf:manyB a=true
  ·have hr:r=k:=by rw[hr];simp only[findU,hf,if_true]
   subst hr;rw[hf] at c1;simp only[hf];simp (disch:=omega) only[oo,oop,oq,reduceCtorEq];repeat' first|with_reducible apply And.intro|intro _|rfl|omega|assumption|trivial|(exfalso;simp_all;done)
  ·have hf':manyB a=false:=by simpa using hf
   have hr:r=findU (k+1) (M.drop (k+1).toNat):=by rw[hr];simp only[findU,hf',Bool.false_eq_true,if_false]
   rw[←hr] at h1;rw[hf'] at c1;simp only[hf'];simp (disch:=omega) only[oo,oop,oq,reduceCtorEq];repeat' first|with_reducible apply And.intro|intro _|rfl|omega|assumption|trivial|(exfalso;simp_all;done)
def vq53 (M:List Nat) (k:Int) (Q:List Int) (G:GT) (R:RT):Prop:=let yy0:=((Mi M).getD k.toNat tU.dflt);(decide (k<M.length)=true→0≤k∧k< (↑(Mi M).length:Int)∧cP 34 [] [D.v (Value.int .u64 yy0),vi 0] (vi (nthN (Int.toNat yy0) (0:Int))) [] []∧Value.int .u64 yy0=Value.int .u64 yy0∧vE (0:Int) (0:Int)∧0≤k∧k<Q.length∧0+k.toNat<Q.length∧sK u131 0∧G 0 (stOf 23 [3,9,10,11] [D.own 0 0 Q.length (some Q.length),sL tU (Mi M),vi M.length,vi (IntKind.i64.wrap (k+1))] [lD 3 tI (Q.set (0+k.toNat) (nthN (Int.toNat yy0) (0:Int)))]))∧(decide (k<M.length)=false→R (D.own 0 0 Q.length (some Q.length),[],[Row.data 3 tI Q]))
theorem e131 (M:List Nat) (hM:Smalls M) (hl:M.length≤1000000) (z:Nat):∀(k:Int) (Q:List Int),0≤k→k+z=M.length→Q.length=M.length→(∀j:Nat,j<k.toNat→Q.getD j 0=(lettersF M).getD j 0)→GetsK Tryd.prog Tryd.f131.results.toList [none] (KK u131) 0 (.own 0 0 (lettersF M).length (some (lettersF M).length),[],[.data 3 (.int .i64) (lettersF M)]) 0 (stOf 23 [3,9,10,11] [.own 0 0 Q.length (some Q.length),slU M,vi M.length,vi k] [lD 3 (.int .i64) Q]):=by
 have hLl:(lettersF M).length=M.length:=by unfold lettersF;rw[List.length_map]
 induction z with
 |zero=>
  intro k Q k0 hk hQ hq;have e:Q=lettersF M:=by
   apply List.ext_getElem (by omega);intro j h1 h2;have:=hq j (by omega);rw[gE,gE,gQ h1,gQ h2] at this;exact this
  refine gets_vc spZ (fun _=> [3,9,10,11]) (fun _=> []) 400 (.fork (.hd 0) .stop) (V:=vq53 M k Q) hmG (fun G R=>by kernel_rfl) ?_;unfold vq53;try dsimp only
  have w:decide (k< (M.length:Int))=false:=decide_eq_false (by omega);simp only[w,e];simp (disch:=omega) only[oo,oop,oq,reduceCtorEq];repeat' first|with_reducible apply And.intro|intro _|rfl|omega|assumption|trivial|(exfalso;simp_all;done)
 |succ z ih=>
  intro k Q k0 hk hQ hq;have hk1:IntKind.i64.wrap (k+1)=k+1:=wrG (by omega) (by omega);obtain⟨a,ha⟩:∃a,M.getD k.toNat 0=a:=⟨_,rfl⟩;have has:=hM.at k.toNat;rw[ha] at has;have c1:=d34U a 0 has (by omega);unfold u64 at c1;have eL:(lettersF M).getD k.toNat 0=nthN a 0:=by
   unfold lettersF;rw[gE,List.getElem?_map,gQ (by omega),←ha,gE,gQ (by omega)];rfl
  have hg:=ih (k+1) (Q.set k.toNat (nthN a 0)) (by omega) (by omega) (by rw[List.length_set];exact hQ) (fun j hj=>by
   rw[getD_setI];split
   ·rename_i h;rw[←h.1,eL]
   ·rename_i h;exact hq j (by omega))
  rw[List.length_set] at hg;have w:decide (k< (M.length:Int))=true:=decide_eq_true (by omega);refine gets_vc spZ (fun _=> [3,9,10,11]) (fun _=> []) 400 (.fork (.hd 0) .stop) (V:=vq53 M k Q) hmG (fun G R=>by kernel_rfl) ?_;unfold vq53;try dsimp only
  simp only[w,Ty.dflt,hk1,zz,Mi_take,ha];simp (disch:=omega) only[oo,oop,oq,reduceCtorEq];repeat' first|with_reducible apply And.intro|intro _|rfl|omega|assumption|trivial|(exfalso;simp_all;done)
theorem d129U (M:List Nat) (hM:Smalls M) (hl:M.length≤1000000):Con Tryd.prog 129 [] [slU M,.fn 130 []] (vi (findU 0 M)) [] []:=by
 refine con_vc (how:=[none]) (c:=u129) (K:=(KK u129)) spZ (fun _=> [0,1,6,7,8]) (fun _=> []) 400 (.hd 0) (V:=fun G R=>sK u129 0∧G 0 (stOf 19 [0,1,6,7,8] [sL tU (Mi M),D.fn 130 [],sL tU (Mi M),vi (↑(Mi M).length:Int),vi 0] [])) hmG Tryd.func129 (by kernel_rfl) (by kernel_rfl) (fun G R=>by kernel_rfl) ?_;try dsimp only
 have hx:=e129 M hM hl M.length 0 (by omega) (by omega) _ rfl;simp only[Mi_len];simp (disch:=omega) only[oo,oop,oq,reduceCtorEq];repeat' first|with_reducible apply And.intro|intro _|rfl|omega|assumption|trivial|(exfalso;simp_all;done)
theorem d131U (M:List Nat) (hM:Smalls M) (hl:M.length≤1000000):Con Tryd.prog 131 [] [slU M] (.own 0 0 (lettersF M).length (some (lettersF M).length)) [] [.data 3 (.int .i64) (lettersF M)]:=by
 refine con_vc (how:=[none]) (c:=u131) (K:=(KK u131)) spZ (fun _=> [3,9,10,11]) (fun _=> []) 400 (.hd 0) (V:=fun G R=>let yy0:=(↑(Mi M).length:Int);(0:Int)≤yy0∧yy0≤yy0∧yy0≤(9223372036854775807:Int)∧yy0.toNat*8≤281474976710656∧sK u131 0∧G 0 (stOf 23 [3,9,10,11] [D.own 0 0 yy0.toNat (some yy0.toNat),sL tU (Mi M),vi yy0,vi 0] [lD 3 tI (List.replicate yy0.toNat (0:Int))])) hmG Tryd.func131 (by kernel_rfl) (by kernel_rfl) (fun G R=>by kernel_rfl) ?_
 try dsimp only
 try dsimp only
 have hx:=e131 M hM hl M.length 0 (List.replicate M.length 0) (by omega) (by omega) (by simp) (fun j hj=>by simp at hj);rw[List.length_replicate] at hx;simp only[Mi_len,Int.toNat_natCast];simp (disch:=omega) only[oo,oop,oq,reduceCtorEq];repeat' first|with_reducible apply And.intro|intro _|rfl|omega|assumption|trivial|(exfalso;simp_all;done)
theorem d132U (X:List (Int×Int)):Con Tryd.prog 132 [] [slQ X] (.sl false true SeT X) [] []:=by
 refine con_vc (how:=[none]) (c:=u132) (K:=(KK u132)) spZ (fun _=> []) (fun _=> []) 400 .stop (V:=fun G R=>let yy0:=(↑X.length:Int);(0:Int)≤0∧(0:Int)≤yy0∧yy0=yy0∧yy0≤yy0∧R (D.sl false true tQ (List.take (yy0.toNat-0) (List.drop 0 X)),[],[])) hmG Tryd.func132 (by kernel_rfl) (by kernel_rfl) (fun G R=>by kernel_rfl) ?_
 try dsimp only
 try dsimp only
 simp only[Int.toNat_natCast,show(0:Int).toNat=0 by rfl,List.drop_zero,Nat.sub_zero,List.take_length];simp (disch:=omega) only[oo,oop,oq,reduceCtorEq];repeat' first|with_reducible apply And.intro|intro _|rfl|omega|assumption|trivial|(exfalso;simp_all;done)
theorem d147Ut (X:List (Int×Int)) (hX:X.length≤1000000):Con Tryd.prog 147 [] [.sl true false SeT X] (o0 0 X.length) [] [.data 92 SeT X]:=by
 refine con_vc (how:=[none]) (c:=u147) (K:=(KK u147)) spZ (fun _=> []) (fun k=>if k=99 then [⟨2,92,SeT⟩] else []) 400 (.fork .stop .stop) (V:=fun G R=>(false=true→R (o0 0 0,[],[Row.data 92 tQ []]))∧(false=false→rM 92 (0+X.length)∧R (o0 0 (0+X.length),[],[Row.data 92 tQ (List.take 0 (List.drop 0 [])++X)]))) hmG Tryd.func147 (by kernel_rfl) (by kernel_rfl) (fun G R=>by kernel_rfl) ?_;try dsimp only
 simp only[zz,Mi_take];simp (disch:=omega) only[oo,oop,oq,reduceCtorEq];repeat' first|with_reducible apply And.intro|intro _|rfl|omega|assumption|trivial|exact room92 (by omega)|exact room90U (by omega)|(exfalso;simp_all;done)
theorem d147Un:Con Tryd.prog 147 [] [.v (.slice none 0 0)] (o0 0 0) [] [.data 92 SeT []]:=by
 refine con_vc (how:=[none]) (c:=u147) (K:=(KK u147)) spZ (fun _=> []) (fun k=>if k=99 then [⟨2,92,SeT⟩] else []) 400 (.fork .stop .stop) (V:=fun G R=>(true=true→R (o0 0 0,[],[Row.data 92 tQ []]))∧(true=false→rM 92 0∧R (o0 0 0,[],[Row.data 92 tQ (List.take 0 (List.drop 0 [])++[])]))) hmG Tryd.func147 (by kernel_rfl) (by kernel_rfl) (fun G R=>by kernel_rfl) ?_;try dsimp only
 simp (disch:=omega) only[oo,oop,oq,reduceCtorEq];repeat' first|with_reducible apply And.intro|intro _|rfl|omega|assumption|trivial|exact room92 (by omega)|exact room90U (by omega)|(exfalso;simp_all;done)
theorem d147U (X:List (Int×Int)) (hX:X.length≤1000000):Con Tryd.prog 147 [] [slQ X] (o0 0 X.length) [] [.data 92 SeT X]:=con_nn2 (d147Ut X hX) fun e=>by
 subst e;exact d147Un
theorem d97U (X:List Int) (b:Bool):Con Tryd.prog 97 [.box 4 [vb b]] [slI X,.ptr 0 0 0] (vb false) [some (.box 4 [vb true])] []:=by
 refine con_vc (how:=[none]) (c:=u97) (K:=(KK u97)) spZ (fun _=> []) (fun _=> []) 400 .stop (V:=fun G R=>R (vb false,[some (Row.box 4 [vb true])],[])) hmG Tryd.func97 (by kernel_rfl) (by kernel_rfl) (fun G R=>by kernel_rfl) ?_;try dsimp only
 all_goals rfl
theorem d128U (g:Gr) (W:List (List Int)) (M:List Nat) (F:List (List (Int×Int))) (X:List (Int×Int)) (seen:Int) (fb:Bool) (hF:F.length≤1000000) (hX:X.length≤1000000):Con Tryd.prog 128 [rowV ⟨g,W,M⟩ 2 1 F.length seen,.data 90 BT F,.box 4 [vb fb]] [.ptr 0 0 0,slQ X] (.tup []) [some (rowV ⟨g,W,M⟩ 2 3 (F.length+1) seen),none,some (.box 4 [vb fb])] [.data 90 BT (F++[X])]:=by
 refine con_vc (how:=[]) (c:=u128) (K:=(KK u128)) spZ (fun _=> []) (fun _=> []) 400 (.fork .stop .stop) (V:=fun G R=>(true=true→cP 147 [] [sL tQ X] (o0 0 X.length) [] [Row.data 92 tQ X]∧X=X∧rM 90 (F.length+1)∧R (D.tup [],[some (Row.box 129 [D.fn 97 [D.ptr 2 0 0],vb true,o0 3 (F.length+1),vi (Pr.mk g W M).g.h,vi (Pr.mk g W M).g.w,sL tB (Pr.mk g W M).g.B,sL tB (Pr.mk g W M).g.R,sL tB (Pr.mk g W M).g.L,sL tI.sl (Pr.mk g W M).W,sL tU (Mi (Pr.mk g W M).M),vi seen]),none,some (Row.box 4 [vb fb])],[Row.data 90 tQ.sl (List.take F.length (List.drop 0 F)++List.take 1 (List.drop 0 [List.take X.length (List.drop 0 X)]))]))∧(true=false→R (D.tup [],[some (Row.box 129 [D.fn 97 [D.ptr 2 0 0],vb true,o0 1 F.length,vi (Pr.mk g W M).g.h,vi (Pr.mk g W M).g.w,sL tB (Pr.mk g W M).g.B,sL tB (Pr.mk g W M).g.R,sL tB (Pr.mk g W M).g.L,sL tI.sl (Pr.mk g W M).W,sL tU (Mi (Pr.mk g W M).M),vi seen]),some (Row.data 90 tQ.sl F),some (Row.box 4 [vb fb])],[]))) hmG Tryd.func128 (by kernel_rfl) (by kernel_rfl) (fun G R=>by kernel_rfl) ?_;try dsimp only
 try dsimp only
 have c1:=d147U X hX;simp only[Nt_Mi,zz,Mi_take];simp (disch:=omega) only[oo,oop,oq,reduceCtorEq];repeat' first|with_reducible apply And.intro|intro _|rfl|omega|assumption|trivial|exact room92 (by omega)|exact room90U (by omega)|(exfalso;simp_all;done)
theorem b127 (g:Gr) (W:List (List Int)) (M:List Nat) (F:List (List (Int×Int))) (X:List (Int×Int)) (seen:Int) (fb:Bool) (c:Int) (m:Nat) (hF:F.length≤1000000) (hX:X.length≤1000000):GetsK Tryd.prog Tryd.f127.results.toList [none] (KX u127) 5 (vi ((0:Int),(seen,F++[X],fb)).1,[some (.box 125 [.ptr 2 0 0]),some (.box 159 [.fn 127 [.ptr 0 0 0,.ptr 1 0 0]]),some (.box 129 [.fn 97 [.ptr 4 0 0],vb true,o0 5 ((0:Int),(seen,F++[X],fb)).2.2.1.length,vi g.h,vi g.w,sL .bool g.B,sL .bool g.R,sL .bool g.L,slW W,slU M,vi ((0:Int),(seen,F++[X],fb)).2.1]),none,some (.box 4 [vb ((0:Int),(seen,F++[X],fb)).2.2.2])],[.data 90 BT ((0:Int),(seen,F++[X],fb)).2.2.1]) 300 (stOf 73 [1,2,3,4,7,10,56] [.ptr 0 0 0,.ptr 1 0 0,.ptr 5 0 0,.ptr 6 0 0,.ptr 7 0 0,.ptr 2 0 0,.fn 72 [.rptr [u64 m]]] [lB 125 [.ptr 2 0 0],lB 159 [.fn 127 [.ptr 0 0 0,.ptr 1 0 0]],lB 129 [.fn 97 [.ptr 4 0 0],vb true,o0 8 F.length,vi g.h,vi g.w,sL .bool g.B,sL .bool g.R,sL .bool g.L,slW W,slU M,vi seen],.dead,lB 4 [vb fb],lB 90 [slQ X],lB 3 [vi 0],lB 3 [vi c],lD 90 BT F]):=by
 have c1:=d128U g W M F X seen fb hF hX;refine gets_vc spZ (fun _=> []) (fun _=> [⟨1000020010,90,BT⟩]) 400 .stop (V:=fun G R=>let yy0:=(Pr.mk g W (Nt (Mi M)));let yy2:=(Value.int .i64 seen);let yy3:=(Row.box 4 [vb fb]);let yy4:=(Value.int .i64 yy0.g.h);let yy5:=(Value.int .i64 yy0.g.w);cP 128 [Row.box 129 [D.fn 97 [D.ptr 2 0 0],vb true,o0 1 F.length,D.v yy4,D.v yy5,sL tB yy0.g.B,sL tB yy0.g.R,sL tB yy0.g.L,sL tI.sl yy0.W,sL tU (Mi yy0.M),D.v yy2],Row.data 90 tQ.sl F,Row.box 4 [vb fb]] [p0,sL tQ X] (D.tup []) [some (Row.box 129 [D.fn 97 [D.ptr 2 0 0],vb true,o0 3 (F.length+1),D.v yy4,D.v yy5,sL tB yy0.g.B,sL tB yy0.g.R,sL tB yy0.g.L,sL tI.sl yy0.W,sL tU (Mi yy0.M),D.v yy2]),none,some yy3] [Row.data 90 tQ.sl (F++[X])]∧2=2∧0=0∧0=0∧X=X∧some (Row.box 129 [D.fn 97 [D.ptr 4 0 0],vb true,o0 8 F.length,vi g.h,vi g.w,sL tB g.B,sL tB g.R,sL tB g.L,sL tI.sl W,sL tU (Mi M),D.v yy2])=some (Row.box 129 [D.fn 97 [D.ptr 4 0 0],vb true,o0 8 F.length,D.v yy4,D.v yy5,sL tB yy0.g.B,sL tB yy0.g.R,sL tB yy0.g.L,sL tI.sl yy0.W,sL tU (Mi yy0.M),D.v yy2])∧some (Row.data 90 tQ.sl F)=some (Row.data 90 tQ.sl F)∧some yy3=some yy3∧R (vi 0,[some (Row.box 125 [D.ptr 2 0 0]),some (Row.box 159 [D.fn 127 [p0,D.ptr 1 0 0]]),some (Row.box 129 [D.fn 97 [D.ptr 4 0 0],vb true,o0 5 (F.length+1),D.v yy4,D.v yy5,sL tB yy0.g.B,sL tB yy0.g.R,sL tB yy0.g.L,sL tI.sl yy0.W,sL tU (Mi yy0.M),D.v yy2]),none,some yy3],[Row.data 90 tQ.sl (List.take (F.length+1) (List.drop 0 (F++[X])))])) hmG (fun G R=>by kernel_rfl) ?_
 try dsimp only
 simp only[Nt_Mi,zz,Mi_take];simp (disch:=omega) only[oo,oop,oq,reduceCtorEq];repeat' first|with_reducible apply And.intro|intro _|rfl|omega|assumption|trivial|exact room92 (by omega)|(exfalso;simp_all;done)
theorem j127 (g:Gr) (W:List (List Int)) (M:List Nat) (F:List (List (Int×Int))) (X:List (Int×Int)) (seen:Int) (fb:Bool) (c:Int) (m:Nat) (how:Int):GetsK Tryd.prog Tryd.f127.results.toList [none] (KX u127) 5 (vi (how,(seen,F,fb)).1,[some (.box 125 [.ptr 2 0 0]),some (.box 159 [.fn 127 [.ptr 0 0 0,.ptr 1 0 0]]),some (.box 129 [.fn 97 [.ptr 4 0 0],vb true,o0 5 (how,(seen,F,fb)).2.2.1.length,vi g.h,vi g.w,sL .bool g.B,sL .bool g.R,sL .bool g.L,slW W,slU M,vi (how,(seen,F,fb)).2.1]),none,some (.box 4 [vb (how,(seen,F,fb)).2.2.2])],[.data 90 BT (how,(seen,F,fb)).2.2.1]) 500 (stOf 73 [1,2,3,4,7,10,56] [.ptr 0 0 0,.ptr 1 0 0,.ptr 5 0 0,.ptr 6 0 0,.ptr 7 0 0,.ptr 2 0 0,.fn 72 [.rptr [u64 m]]] [lB 125 [.ptr 2 0 0],lB 159 [.fn 127 [.ptr 0 0 0,.ptr 1 0 0]],lB 129 [.fn 97 [.ptr 4 0 0],vb true,o0 8 F.length,vi g.h,vi g.w,sL .bool g.B,sL .bool g.R,sL .bool g.L,slW W,slU M,vi seen],.dead,lB 4 [vb fb],lB 90 [slQ X],lB 3 [vi how],lB 3 [vi c],lD 90 BT F]):=by
 refine gets_vc spZ (fun _=> []) (fun _=> [⟨1000020010,90,BT⟩]) 400 .stop (V:=fun G R=>R (vi how,[some (Row.box 125 [D.ptr 2 0 0]),some (Row.box 159 [D.fn 127 [p0,D.ptr 1 0 0]]),some (Row.box 129 [D.fn 97 [D.ptr 4 0 0],vb true,o0 5 F.length,vi g.h,vi g.w,sL tB g.B,sL tB g.R,sL tB g.L,sL tI.sl W,sL tU (Mi M),vi seen]),none,some (Row.box 4 [vb fb])],[Row.data 90 tQ.sl (List.take F.length (List.drop 0 F))])) hmG (fun G R=>by kernel_rfl) ?_;simp only[Nt_Mi,zz,Mi_take]
theorem y127 (g:Gr) (W:List (List Int)) (M:List Nat) (hc:checkP ⟨g,W,M⟩=0) (hM:Smalls M) (X:List (Int×Int)) (c:Int) (hcn:0≤c∧c<M.length) (m:Nat) (z0:Int) (hX:FxOk M.length z0 X) (hz:z0≤66000) (hrec:∀(X':List (Int×Int)) (s:RunS),z0<s.1→s.1≤66000→RunOk M.length s→FxOk M.length s.1 X'→Con Tryd.prog 127 [.box 125 [.ptr 2 0 0],.box 159 [.fn 127 [.ptr 0 0 0,.ptr 1 0 0]],.box 129 [.fn 97 [.ptr 4 0 0],vb true,o0 3 s.2.1.length,vi g.h,vi g.w,sL .bool g.B,sL .bool g.R,sL .bool g.L,slW W,slU M,vi s.1],.data 90 BT s.2.1,.box 4 [vb s.2.2]] [slQ X',.ptr 0 0 0,.ptr 1 0 0] (vi (runS ⟨g,W,M⟩ X' s).1) [some (.box 125 [.ptr 2 0 0]),some (.box 159 [.fn 127 [.ptr 0 0 0,.ptr 1 0 0]]),some (.box 129 [.fn 97 [.ptr 4 0 0],vb true,o0 5 (runS ⟨g,W,M⟩ X' s).2.2.1.length,vi g.h,vi g.w,sL .bool g.B,sL .bool g.R,sL .bool g.L,slW W,slU M,vi (runS ⟨g,W,M⟩ X' s).2.1]),none,some (.box 4 [vb (runS ⟨g,W,M⟩ X' s).2.2.2])] [.data 90 BT (runS ⟨g,W,M⟩ X' s).2.2.1]):∀(zs:List Int) (s:RunS),z0<s.1→s.1≤66000→RunOk M.length s→(s.2.1.length:Int)+1≤s.1→∀r,r=kidsF (runS ⟨g,W,M⟩) X c zs s→RndsK Tryd.prog u127 Tryd.f127.results.toList [none] 5 (vi r.1,[some (.box 125 [.ptr 2 0 0]),some (.box 159 [.fn 127 [.ptr 0 0 0,.ptr 1 0 0]]),some (.box 129 [.fn 97 [.ptr 4 0 0],vb true,o0 5 r.2.2.1.length,vi g.h,vi g.w,sL .bool g.B,sL .bool g.R,sL .bool g.L,slW W,slU M,vi r.2.1]),none,some (.box 4 [vb r.2.2.2])],[.data 90 BT r.2.2.1]) 0 (vals zs) (stOf 73 [1,2,3,4,7,10,56] [.ptr 0 0 0,.ptr 1 0 0,.ptr 5 0 0,.ptr 6 0 0,.ptr 7 0 0,.ptr 2 0 0,.fn 72 [.rptr [u64 m]]] [lB 125 [.ptr 2 0 0],lB 159 [.fn 127 [.ptr 0 0 0,.ptr 1 0 0]],lB 129 [.fn 97 [.ptr 4 0 0],vb true,o0 8 s.2.1.length,vi g.h,vi g.w,sL .bool g.B,sL .bool g.R,sL .bool g.L,slW W,slU M,vi s.1],.dead,lB 4 [vb s.2.2],lB 90 [slQ X],lB 3 [vi 0],lB 3 [vi c],lD 90 BT s.2.1]):=by
 intro zs;have hXl:=hX.1;induction zs with
 |nil=>
  intro s h1 h2 h3 h4 r hr;simp only[kidsF] at hr;rw[hr];exact rndsK_nil (by decide) (b127 g W M s.2.1 X s.1 s.2.2 c m (by omega) (by omega))
 |cons z zs ih=>
  intro s h1 h2 h3 h4 r hr;obtain⟨seen,F,fb⟩:=s;simp only at h1 h2 h4;have hf:FxOk M.length seen (X++[(c,z)]):=(hX.snoc hcn z).mono (by omega);have c1:=hrec (X++[(c,z)]) (seen,F,fb) h1 h2 h3 hf;have t:=runS_ok hc (X++[(c,z)]) (seen,F,fb) h3 h2 hf;simp only[kidsF] at hr;simp only at c1;obtain⟨q,hq⟩:∃q,runS ⟨g,W,M⟩ (X++[(c,z)]) (seen,F,fb)=q:=⟨_,rfl⟩;rw[hq] at hr c1 t;have c2:=d132U X;have tup:=t.up;have tgr:=t.grow;have hj:=j127 g W M q.2.2.1 X q.2.1 q.2.2.2 c m q.1;simp only at tup tgr;refine rndsK_cons spZ [1,2,3,4,7,8,10] (fun _=> [1,2,3,4,7,10,56]) (fun _=> [⟨1000020010,90,BT⟩]) 400 (.fork .stop .stop) (V:=fun GN GJ=>SameK [Item.beginRound,Item.code (rfB (FF u127 0))] [Item.beginRound,Item.code (rfB (FF u127 0))]∧cP 132 [] [sL tQ X] (D.sl false true tQ X) [] []∧X=X∧1≠0∧rM 92 (X.length+1)∧cP 127 [Row.box 125 [D.ptr 2 0 0],Row.box 159 [D.fn 127 [p0,D.ptr 1 0 0]],Row.box 129 [D.fn 97 [D.ptr 4 0 0],vb true,o0 3 F.length,vi (Pr.mk g W (Nt (Mi M))).g.h,vi (Pr.mk g W (Nt (Mi M))).g.w,sL tB (Pr.mk g W (Nt (Mi M))).g.B,sL tB (Pr.mk g W (Nt (Mi M))).g.R,sL tB (Pr.mk g W (Nt (Mi M))).g.L,sL tI.sl (Pr.mk g W (Nt (Mi M))).W,sL tU (Mi (Pr.mk g W (Nt (Mi M))).M),vi seen],Row.data 90 tQ.sl F,Row.box 4 [vb fb]] [sL tQ (List.take (X.length+1) (List.drop 0 (X++List.take 1 (List.drop 0 [(c,z)])))),p0,D.ptr 1 0 0] (vi (runS (Pr.mk g W (Nt (Mi M))) (List.take (X.length+1) (List.drop 0 (X++List.take 1 (List.drop 0 [(c,z)])))) (seen,F,fb)).fst) [some (Row.box 125 [D.ptr 2 0 0]),some (Row.box 159 [D.fn 127 [p0,D.ptr 1 0 0]]),some (Row.box 129 [D.fn 97 [D.ptr 4 0 0],vb true,o0 5 (runS (Pr.mk g W (Nt (Mi M))) (List.take (X.length+1) (List.drop 0 (X++List.take 1 (List.drop 0 [(c,z)])))) (seen,F,fb)).snd.snd.fst.length,vi (Pr.mk g W (Nt (Mi M))).g.h,vi (Pr.mk g W (Nt (Mi M))).g.w,sL tB (Pr.mk g W (Nt (Mi M))).g.B,sL tB (Pr.mk g W (Nt (Mi M))).g.R,sL tB (Pr.mk g W (Nt (Mi M))).g.L,sL tI.sl (Pr.mk g W (Nt (Mi M))).W,sL tU (Mi (Pr.mk g W (Nt (Mi M))).M),vi (runS (Pr.mk g W (Nt (Mi M))) (List.take (X.length+1) (List.drop 0 (X++List.take 1 (List.drop 0 [(c,z)])))) (seen,F,fb)).snd.fst]),none,some (Row.box 4 [vb (runS (Pr.mk g W (Nt (Mi M))) (List.take (X.length+1) (List.drop 0 (X++List.take 1 (List.drop 0 [(c,z)])))) (seen,F,fb)).snd.snd.snd])] [Row.data 90 tQ.sl (runS (Pr.mk g W (Nt (Mi M))) (List.take (X.length+1) (List.drop 0 (X++List.take 1 (List.drop 0 [(c,z)])))) (seen,F,fb)).snd.snd.fst]∧List.take (X.length+1) (List.drop 0 (X++List.take 1 (List.drop 0 [(c,z)])))=List.take (X.length+1) (List.drop 0 (X++List.take 1 (List.drop 0 [(c,z)])))∧0=0∧0=0∧0=0∧1=1∧0=0∧0=0∧some (Row.box 125 [D.ptr 2 0 0])=some (Row.box 125 [D.ptr 2 0 0])∧some (Row.box 159 [D.fn 127 [p0,D.ptr 1 0 0]])=some (Row.box 159 [D.fn 127 [p0,D.ptr 1 0 0]])∧some (Row.box 129 [D.fn 97 [D.ptr 4 0 0],vb true,o0 8 F.length,vi g.h,vi g.w,sL tB g.B,sL tB g.R,sL tB g.L,sL tI.sl W,sL tU (Mi M),vi seen])=some (Row.box 129 [D.fn 97 [D.ptr 4 0 0],vb true,o0 8 F.length,vi (Pr.mk g W (Nt (Mi M))).g.h,vi (Pr.mk g W (Nt (Mi M))).g.w,sL tB (Pr.mk g W (Nt (Mi M))).g.B,sL tB (Pr.mk g W (Nt (Mi M))).g.R,sL tB (Pr.mk g W (Nt (Mi M))).g.L,sL tI.sl (Pr.mk g W (Nt (Mi M))).W,sL tU (Mi (Pr.mk g W (Nt (Mi M))).M),vi seen])∧some (Row.data 90 tQ.sl F)=some (Row.data 90 tQ.sl F)∧some (Row.box 4 [vb fb])=some (Row.box 4 [vb fb])∧(((runS (Pr.mk g W (Nt (Mi M))) (List.take (X.length+1) (List.drop 0 (X++List.take 1 (List.drop 0 [(c,z)])))) (seen,F,fb)).fst !=(0:Int))=true→GJ Code.ret (stOf 73 [1,2,3,4,7,10,56] [p0,D.ptr 1 0 0,D.ptr 5 0 0,D.ptr 6 0 0,D.ptr 7 0 0,D.ptr 2 0 0,D.fn 72 [D.rptr [D.v (Value.int .u64 (↑m:Int))]]] [lB 125 [D.ptr 2 0 0],lB 159 [D.fn 127 [p0,D.ptr 1 0 0]],lB 129 [D.fn 97 [D.ptr 4 0 0],vb true,o0 8 (runS (Pr.mk g W (Nt (Mi M))) (List.take (X.length+1) (List.drop 0 (X++List.take 1 (List.drop 0 [(c,z)])))) (seen,F,fb)).snd.snd.fst.length,vi (Pr.mk g W (Nt (Mi M))).g.h,vi (Pr.mk g W (Nt (Mi M))).g.w,sL tB (Pr.mk g W (Nt (Mi M))).g.B,sL tB (Pr.mk g W (Nt (Mi M))).g.R,sL tB (Pr.mk g W (Nt (Mi M))).g.L,sL tI.sl (Pr.mk g W (Nt (Mi M))).W,sL tU (Mi (Pr.mk g W (Nt (Mi M))).M),vi (runS (Pr.mk g W (Nt (Mi M))) (List.take (X.length+1) (List.drop 0 (X++List.take 1 (List.drop 0 [(c,z)])))) (seen,F,fb)).snd.fst],Slot.dead,lB 4 [vb (runS (Pr.mk g W (Nt (Mi M))) (List.take (X.length+1) (List.drop 0 (X++List.take 1 (List.drop 0 [(c,z)])))) (seen,F,fb)).snd.snd.snd],lB 90 [sL tQ X],lB 3 [vi (runS (Pr.mk g W (Nt (Mi M))) (List.take (X.length+1) (List.drop 0 (X++List.take 1 (List.drop 0 [(c,z)])))) (seen,F,fb)).fst],lB 3 [vi c],lD 90 tQ.sl (List.take (runS (Pr.mk g W (Nt (Mi M))) (List.take (X.length+1) (List.drop 0 (X++List.take 1 (List.drop 0 [(c,z)])))) (seen,F,fb)).snd.snd.fst.length (List.drop 0 (runS (Pr.mk g W (Nt (Mi M))) (List.take (X.length+1) (List.drop 0 (X++List.take 1 (List.drop 0 [(c,z)])))) (seen,F,fb)).snd.snd.fst))]))∧(((runS (Pr.mk g W (Nt (Mi M))) (List.take (X.length+1) (List.drop 0 (X++List.take 1 (List.drop 0 [(c,z)])))) (seen,F,fb)).fst !=(0:Int))=false→GN (stOf 73 [1,2,3,4,7,10,56] [p0,D.ptr 1 0 0,D.ptr 5 0 0,D.ptr 6 0 0,D.ptr 7 0 0,D.ptr 2 0 0,D.fn 72 [D.rptr [D.v (Value.int .u64 (↑m:Int))]]] [lB 125 [D.ptr 2 0 0],lB 159 [D.fn 127 [p0,D.ptr 1 0 0]],lB 129 [D.fn 97 [D.ptr 4 0 0],vb true,o0 8 (runS (Pr.mk g W (Nt (Mi M))) (List.take (X.length+1) (List.drop 0 (X++List.take 1 (List.drop 0 [(c,z)])))) (seen,F,fb)).snd.snd.fst.length,vi (Pr.mk g W (Nt (Mi M))).g.h,vi (Pr.mk g W (Nt (Mi M))).g.w,sL tB (Pr.mk g W (Nt (Mi M))).g.B,sL tB (Pr.mk g W (Nt (Mi M))).g.R,sL tB (Pr.mk g W (Nt (Mi M))).g.L,sL tI.sl (Pr.mk g W (Nt (Mi M))).W,sL tU (Mi (Pr.mk g W (Nt (Mi M))).M),vi (runS (Pr.mk g W (Nt (Mi M))) (List.take (X.length+1) (List.drop 0 (X++List.take 1 (List.drop 0 [(c,z)])))) (seen,F,fb)).snd.fst],Slot.dead,lB 4 [vb (runS (Pr.mk g W (Nt (Mi M))) (List.take (X.length+1) (List.drop 0 (X++List.take 1 (List.drop 0 [(c,z)])))) (seen,F,fb)).snd.snd.snd],lB 90 [sL tQ X],lB 3 [vi 0],lB 3 [vi c],lD 90 tQ.sl (List.take (runS (Pr.mk g W (Nt (Mi M))) (List.take (X.length+1) (List.drop 0 (X++List.take 1 (List.drop 0 [(c,z)])))) (seen,F,fb)).snd.snd.fst.length (List.drop 0 (runS (Pr.mk g W (Nt (Mi M))) (List.take (X.length+1) (List.drop 0 (X++List.take 1 (List.drop 0 [(c,z)])))) (seen,F,fb)).snd.snd.fst))]))) hmG (by decide) (by rfl) (fun GN GJ=>by kernel_rfl) ?_;simp only[Nt_Mi,zz,Mi_take,hq];by_cases h0:q.1=0
  ·rw[if_pos h0] at hr;have hg:=ih q.2 (by omega) (t.more h0) t.ok (by omega) r hr;rw[h0] at c1 hj;simp only[h0];simp (disch:=omega) only[oo,oop,oq,reduceCtorEq];repeat' first|with_reducible apply And.intro|intro _|rfl|omega|assumption|trivial|exact room92 (by omega)|(exfalso;simp_all;done)
  ·rw[if_neg h0] at hr;rw[hr];simp (disch:=omega) only[oo,oop,oq,reduceCtorEq];repeat' first|with_reducible apply And.intro|intro _|rfl|omega|assumption|trivial|exact room92 (by omega)|(exfalso;simp_all;done)
theorem s127 (g:Gr) (W:List (List Int)) (M:List Nat) (hc:checkP ⟨g,W,M⟩=0) (hM:Smalls M) (X:List (Int×Int)) (s:RunS) (h2:s.1≤66000) (h3:RunOk M.length s) (h4:FxOk M.length s.1 X) (hrec:∀(X':List (Int×Int)) (s':RunS),s.1<s'.1→s'.1≤66000→RunOk M.length s'→FxOk M.length s'.1 X'→Con Tryd.prog 127 [.box 125 [.ptr 2 0 0],.box 159 [.fn 127 [.ptr 0 0 0,.ptr 1 0 0]],.box 129 [.fn 97 [.ptr 4 0 0],vb true,o0 3 s'.2.1.length,vi g.h,vi g.w,sL .bool g.B,sL .bool g.R,sL .bool g.L,slW W,slU M,vi s'.1],.data 90 BT s'.2.1,.box 4 [vb s'.2.2]] [slQ X',.ptr 0 0 0,.ptr 1 0 0] (vi (runS ⟨g,W,M⟩ X' s').1) [some (.box 125 [.ptr 2 0 0]),some (.box 159 [.fn 127 [.ptr 0 0 0,.ptr 1 0 0]]),some (.box 129 [.fn 97 [.ptr 4 0 0],vb true,o0 5 (runS ⟨g,W,M⟩ X' s').2.2.1.length,vi g.h,vi g.w,sL .bool g.B,sL .bool g.R,sL .bool g.L,slW W,slU M,vi (runS ⟨g,W,M⟩ X' s').2.1]),none,some (.box 4 [vb (runS ⟨g,W,M⟩ X' s').2.2.2])] [.data 90 BT (runS ⟨g,W,M⟩ X' s').2.2.1]):Con Tryd.prog 127 [.box 125 [.ptr 2 0 0],.box 159 [.fn 127 [.ptr 0 0 0,.ptr 1 0 0]],.box 129 [.fn 97 [.ptr 4 0 0],vb true,o0 3 s.2.1.length,vi g.h,vi g.w,sL .bool g.B,sL .bool g.R,sL .bool g.L,slW W,slU M,vi s.1],.data 90 BT s.2.1,.box 4 [vb s.2.2]] [slQ X,.ptr 0 0 0,.ptr 1 0 0] (vi (runS ⟨g,W,M⟩ X s).1) [some (.box 125 [.ptr 2 0 0]),some (.box 159 [.fn 127 [.ptr 0 0 0,.ptr 1 0 0]]),some (.box 129 [.fn 97 [.ptr 4 0 0],vb true,o0 5 (runS ⟨g,W,M⟩ X s).2.2.1.length,vi g.h,vi g.w,sL .bool g.B,sL .bool g.R,sL .bool g.L,slW W,slU M,vi (runS ⟨g,W,M⟩ X s).2.1]),none,some (.box 4 [vb (runS ⟨g,W,M⟩ X s).2.2.2])] [.data 90 BT (runS ⟨g,W,M⟩ X s).2.2.1]:=by
 obtain⟨seen,F,fb⟩:=s;simp only at h2 hrec;have hp:=h3.pos;have hl:=h3.len;have hXl:=h4.1;simp only at hp hl hXl;obtain⟨r,hr⟩:∃r,runS ⟨g,W,M⟩ X (seen,F,fb)=r:=⟨_,rfl⟩;rw[hr];rw[runS_eq] at hr;have k1:IntKind.i64.wrap (seen+1)=seen+1:=wrG (by omega) (by omega);simp only[runB] at hr;refine con_vc (how:=[none]) (c:=u127) (K:=(KX u127)) spZ (fun k=>if k=100 then [1,2,3,4,7,10,56] else [1,2,3,4,7,10]) (fun _=> [⟨1000020010,90,BT⟩]) 400 (.fork .stop (.fork .stop (.fork (.fork .stop .stop) (.cut 100)))) (V:=fun G R=>let yy0:=(Nt (List.take (spreadG (Pr.mk g W (Nt (Mi M))) X (List.take F.length (List.drop 0 F))).fst.length (List.drop 0 (Mi (spreadG (Pr.mk g W (Nt (Mi M))) X (List.take F.length (List.drop 0 F))).fst))));let yy1:=(Pr.mk g W (Nt (Mi M)));let yy2:=(Row.box 129 [D.fn 97 [D.ptr 4 0 0],vb true,o0 5 F.length,vi g.h,vi g.w,sL tB g.B,sL tB g.R,sL tB g.L,sL tI.sl W,sL tU (Mi M),vi (IntKind.i64.wrap (seen+1))]);let yy3:=(spreadG yy1 X (List.take F.length (List.drop 0 F)));let yy5:=((Mi yy3.fst).getD (0+(findU (0:Int) yy0).toNat) tU.dflt);let yy6:=(Value.int .i64 (IntKind.i64.wrap (seen+1)));let yy7:=(Row.box 4 [vb fb]);let yy8:=(Row.box 159 [D.fn 127 [p0,D.ptr 1 0 0]]);(decide (IntKind.i64.wrap (seen+1)>(66000:Int))=true→R (vi 2,[some (Row.box 125 [D.ptr 2 0 0]),some yy8,some yy2,none,some yy7],[Row.data 90 tQ.sl (List.take F.length (List.drop 0 F))]))∧(decide (IntKind.i64.wrap (seen+1)>(66000:Int))=false→cP 92 [] [D.agg (gG yy1.g [sL tI.sl yy1.W,sL tU (Mi yy1.M)]),sL tQ X,sL tQ.sl (List.take F.length (List.drop 0 F))] (D.tup [o0 0 yy3.fst.length,vb yy3.snd]) [] [Row.data 22 tU (Mi yy3.fst)]∧gS g yy1.g (W=yy1.W∧Mi M=Mi yy1.M∧X=X∧List.take F.length (List.drop 0 F)=List.take F.length (List.drop 0 F)∧((!yy3.snd)=true→cP 128 [Row.box 129 [D.fn 97 [D.ptr 2 0 0],vb true,o0 1 F.length,vi yy1.g.h,vi yy1.g.w,sL tB yy1.g.B,sL tB yy1.g.R,sL tB yy1.g.L,sL tI.sl yy1.W,sL tU (Mi yy1.M),D.v yy6],Row.data 90 tQ.sl F,Row.box 4 [vb fb]] [p0,sL tQ X] (D.tup []) [some (Row.box 129 [D.fn 97 [D.ptr 2 0 0],vb true,o0 3 (F.length+1),vi yy1.g.h,vi yy1.g.w,sL tB yy1.g.B,sL tB yy1.g.R,sL tB yy1.g.L,sL tI.sl yy1.W,sL tU (Mi yy1.M),D.v yy6]),none,some yy7] [Row.data 90 tQ.sl (F++[X])]∧2=2∧0=0∧0=0∧X=X∧some (Row.box 129 [D.fn 97 [D.ptr 4 0 0],vb true,o0 3 F.length,vi g.h,vi g.w,sL tB g.B,sL tB g.R,sL tB g.L,sL tI.sl W,sL tU (Mi M),D.v yy6])=some (Row.box 129 [D.fn 97 [D.ptr 4 0 0],vb true,o0 3 F.length,vi yy1.g.h,vi yy1.g.w,sL tB yy1.g.B,sL tB yy1.g.R,sL tB yy1.g.L,sL tI.sl yy1.W,sL tU (Mi yy1.M),D.v yy6])∧some (Row.data 90 tQ.sl F)=some (Row.data 90 tQ.sl F)∧some yy7=some yy7∧R (vi 0,[some (Row.box 125 [D.ptr 2 0 0]),some yy8,some (Row.box 129 [D.fn 97 [D.ptr 4 0 0],vb true,o0 5 (F.length+1),vi yy1.g.h,vi yy1.g.w,sL tB yy1.g.B,sL tB yy1.g.R,sL tB yy1.g.L,sL tI.sl yy1.W,sL tU (Mi yy1.M),D.v yy6]),none,some yy7],[Row.data 90 tQ.sl (List.take (F.length+1) (List.drop 0 (F++[X])))]))∧((!yy3.snd)=false→cP 129 [] [sL tU (Mi yy0),D.fn 130 []] (vi (findU (0:Int) yy0)) [] []∧List.take yy3.fst.length (List.drop 0 (Mi yy3.fst))=Mi yy0∧(decide (findU (0:Int) yy0< (0:Int))=true→cP 131 [] [sL tU (Mi yy0)] (D.own 0 0 (lettersF yy0).length (some (lettersF yy0).length)) [] [Row.data 3 tI (lettersF yy0)]∧List.take yy3.fst.length (List.drop 0 (Mi yy3.fst))=Mi yy0∧cP 97 [Row.box 4 [vb fb]] [sL tI (List.take (lettersF yy0).length (List.drop 0 (lettersF yy0))),p0] (vb false) [some (Row.box 4 [vb true])] []∧List.take (lettersF yy0).length (List.drop 0 (lettersF yy0))=List.take (lettersF yy0).length (List.drop 0 (lettersF yy0))∧4=4∧0=0∧0=0∧some yy7=some yy7∧((!false)=true→R (vi 1,[some (Row.box 125 [D.ptr 2 0 0]),some yy8,some yy2,none,some (Row.box 4 [vb true])],[Row.data 90 tQ.sl (List.take F.length (List.drop 0 F))]))∧((!false)=false→R (vi 0,[some (Row.box 125 [D.ptr 2 0 0]),some yy8,some yy2,none,some (Row.box 4 [vb true])],[Row.data 90 tQ.sl (List.take F.length (List.drop 0 F))])))∧(decide (findU (0:Int) yy0< (0:Int))=false→(0:Int)≤findU (0:Int) yy0∧findU (0:Int) yy0< (↑yy3.fst.length:Int)∧0+(findU (0:Int) yy0).toNat< (Mi yy3.fst).length∧cP 21 [] [D.v (Value.int .u64 yy5)] (D.fn 72 [D.rptr [D.v (Value.int .u64 yy5)]]) [] []∧Value.int .u64 yy5=Value.int .u64 yy5∧SameK (KX u127 100) (KX u127 100)∧G 100 (stOf 73 [1,2,3,4,7,10,56] [p0,D.ptr 1 0 0,D.ptr 5 0 0,D.ptr 6 0 0,D.ptr 7 0 0,D.ptr 2 0 0,D.fn 72 [D.rptr [D.v (Value.int .u64 yy5)]]] [lB 125 [D.ptr 2 0 0],Slot.live yy8,lB 129 [D.fn 97 [D.ptr 4 0 0],vb true,o0 8 F.length,vi g.h,vi g.w,sL tB g.B,sL tB g.R,sL tB g.L,sL tI.sl W,sL tU (Mi M),D.v yy6],Slot.dead,Slot.live yy7,lB 90 [sL tQ X],lB 3 [vi 0],lB 3 [vi (findU (0:Int) yy0)],lD 90 tQ.sl (List.take F.length (List.drop 0 F))])))))) hmG Tryd.func127 (by kernel_rfl) (by kernel_rfl) (fun G R=>by kernel_rfl) ?_
 try dsimp only
 try dsimp only
 simp only[Nt_Mi,zz,Mi_take,k1];by_cases hs:seen+1>66000
 ·have w:decide (seen+1>66000)=true:=decide_eq_true hs;rw[if_pos hs] at hr;subst hr;simp only[w];simp (disch:=omega) only[oo,oop,oq,reduceCtorEq];repeat' first|with_reducible apply And.intro|intro _|rfl|omega|assumption|trivial|exact room92 (by omega)|(exfalso;simp_all;done)
 ·have w:decide (seen+1>66000)=false:=decide_eq_false hs;rw[if_neg hs] at hr;have c92:=d92 g W M X F hc hM (by omega) h4.2 (by omega) (fun l h=>⟨by have:=(h3.each l h).1;omega,(h3.each l h).2⟩);have hsl:=spreadG_len hc X F;have hss:=spreadG_small hc hM X F;have hml:=(right_fits hc hM).2.1;obtain⟨q,hq⟩:∃q,spreadG ⟨g,W,M⟩ X F=q:=⟨_,rfl⟩;rw[hq] at c92 hsl hss;simp only[hq] at hr;simp only at hsl;have c129:=d129U q.1 hss (by omega);have c128:=d128U g W M F X (seen+1) fb (by omega) (by omega);have c131:=d131U q.1 hss (by omega);have c97:=d97U (lettersF q.1) fb;by_cases ho:q.2=true
  ·rw[if_pos ho] at hr;rw[ho] at c92;by_cases hf:findU 0 q.1<0
   ·rw[if_pos hf] at hr;subst hr;have w2:decide (findU 0 q.1<0)=true:=decide_eq_true hf;simp only[w,hq,ho,w2,Bool.not_true,Bool.not_false];simp (disch:=omega) only[oo,oop,oq,reduceCtorEq];repeat' first|with_reducible apply And.intro|intro _|rfl|omega|assumption|trivial|exact room92 (by omega)|(exfalso;simp_all;done)
   ·rw[if_neg hf] at hr;have w2:decide (findU 0 q.1<0)=false:=decide_eq_false hf;have hcn:0≤findU 0 q.1∧findU 0 q.1<M.length:=by
     rcases findU_at q.1 0 (by omega) with⟨e,_⟩|⟨j,e,hj,_,_⟩
     ·omega
     ·omega
    have hms:=hss.at (findU 0 q.1).toNat;have hg:=y127 g W M hc hM X (findU 0 q.1) hcn (q.1.getD (findU 0 q.1).toNat 0) seen h4 h2 hrec (listN (q.1.getD (findU 0 q.1).toNat 0)) (seen+1,F,fb) (by simp only;omega) (by simp only;omega) ⟨by simp only;omega,by simp only;omega,h3.each⟩ (by simp only;omega) r hr.symm;have c21:=d21U (q.1.getD (findU 0 q.1).toNat 0);have hi:=it72 (q.1.getD (findU 0 q.1).toNat 0) hms;unfold u64 at c21 hi;simp only[w,hq,ho,w2,Bool.not_true,Bool.not_false,Ty.dflt,zz,Mi_take];simp (disch:=omega) only[oo,oop,oq,reduceCtorEq];repeat' first|with_reducible apply And.intro|intro _|rfl|omega|assumption|trivial|exact getsK_range (i:=0) (by decide) rfl rfl ⟨rfl,rfl⟩ hi hg|(exfalso;simp_all;done)
  ·have ho':q.2=false:=by simpa using ho
   rw[if_neg ho] at hr;rw[ho'] at c92;subst hr;simp only[w,hq,ho',Bool.not_true,Bool.not_false,zz,Mi_take];simp (disch:=omega) only[oo,oop,oq,reduceCtorEq];repeat' first|with_reducible apply And.intro|intro _|rfl|omega|assumption|trivial|exact room92 (by omega)|(exfalso;simp_all;done)
theorem e127U (g:Gr) (W:List (List Int)) (M:List Nat) (hc:checkP ⟨g,W,M⟩=0) (hM:Smalls M) (N:Nat):∀(X:List (Int×Int)) (s:RunS),66000≤N+s.1→s.1≤66000→RunOk M.length s→FxOk M.length s.1 X→Con Tryd.prog 127 [.box 125 [.ptr 2 0 0],.box 159 [.fn 127 [.ptr 0 0 0,.ptr 1 0 0]],.box 129 [.fn 97 [.ptr 4 0 0],vb true,o0 3 s.2.1.length,vi g.h,vi g.w,sL .bool g.B,sL .bool g.R,sL .bool g.L,slW W,slU M,vi s.1],.data 90 BT s.2.1,.box 4 [vb s.2.2]] [slQ X,.ptr 0 0 0,.ptr 1 0 0] (vi (runS ⟨g,W,M⟩ X s).1) [some (.box 125 [.ptr 2 0 0]),some (.box 159 [.fn 127 [.ptr 0 0 0,.ptr 1 0 0]]),some (.box 129 [.fn 97 [.ptr 4 0 0],vb true,o0 5 (runS ⟨g,W,M⟩ X s).2.2.1.length,vi g.h,vi g.w,sL .bool g.B,sL .bool g.R,sL .bool g.L,slW W,slU M,vi (runS ⟨g,W,M⟩ X s).2.1]),none,some (.box 4 [vb (runS ⟨g,W,M⟩ X s).2.2.2])] [.data 90 BT (runS ⟨g,W,M⟩ X s).2.2.1]:=by
 induction N with
 |zero=>exact fun X s hN h2 h3 h4=>s127 g W M hc hM X s h2 h3 h4 fun X' s' a b=>by omega
 |succ N ih=>exact fun X s hN h2 h3 h4=>s127 g W M hc hM X s h2 h3 h4 fun X' s' a b c d=>ih X' s' (by omega) b c d
theorem d127U (g:Gr) (W:List (List Int)) (M:List Nat) (hc:checkP ⟨g,W,M⟩=0) (hM:Smalls M) (X:List (Int×Int)) (s:RunS) (h2:s.1≤66000) (h3:RunOk M.length s) (h4:FxOk M.length s.1 X):Con Tryd.prog 127 [.box 125 [.ptr 2 0 0],.box 159 [.fn 127 [.ptr 0 0 0,.ptr 1 0 0]],.box 129 [.fn 97 [.ptr 4 0 0],vb true,o0 3 s.2.1.length,vi g.h,vi g.w,sL .bool g.B,sL .bool g.R,sL .bool g.L,slW W,slU M,vi s.1],.data 90 BT s.2.1,.box 4 [vb s.2.2]] [slQ X,.ptr 0 0 0,.ptr 1 0 0] (vi (runS ⟨g,W,M⟩ X s).1) [some (.box 125 [.ptr 2 0 0]),some (.box 159 [.fn 127 [.ptr 0 0 0,.ptr 1 0 0]]),some (.box 129 [.fn 97 [.ptr 4 0 0],vb true,o0 5 (runS ⟨g,W,M⟩ X s).2.2.1.length,vi g.h,vi g.w,sL .bool g.B,sL .bool g.R,sL .bool g.L,slW W,slU M,vi (runS ⟨g,W,M⟩ X s).2.1]),none,some (.box 4 [vb (runS ⟨g,W,M⟩ X s).2.2.2])] [.data 90 BT (runS ⟨g,W,M⟩ X s).2.2.1]:=e127U g W M hc hM 66000 X s (by have:=h3.pos;omega) h2 h3 h4
def provF (p:Pr):List (List (Int×Int))×Int:=
 if checkP p=0 then
  (if(runS p [] (0,[],false)).2.2.2 then([],130)
   else if(runS p [] (0,[],false)).1=2∨(((runS p [] (0,[],false)).2.2.1.length:Nat):Int)>65000 then([],2)
   else((runS p [] (0,[],false)).2.2.1,0))
 else([],checkP p)
def spW2:Sp:=fun f args rd=>match f,args with
 |96,[.agg [.v (.int _ h),.v (.int _ w),b,r,l,ws,ms]]=>withP rd h w b r l ws ms fun p _=>some {f:=96,args:=[p.d],val:= .ptr 0 0 0,allocs:=[.box 129 [.v .nilFunc,.v (.bool false),.own 1 0 0 none,.v (.int .i64 p.g.h),.v (.int .i64 p.g.w),.sl false false .bool p.g.B,.sl false false .bool p.g.R,.sl false false .bool p.g.L,slW p.W,slU p.M,.v (.int .i64 0)],.data 90 BT []]}
 |59,[.agg [.v (.int _ h),.v (.int _ w),b,r,l,ws,ms]]=>withP rd h w b r l ws ms fun p _=>some {f:=59,args:=[p.d],val:= .tup [.own 0 0 (provF p).1.length none,.v (.int .i64 (provF p).2)],allocs:=[.data 90 BT (provF p).1]}
 |f,args=>spZ f args rd
theorem given_leq:∀(G:List (Int×Int)) (m:List Nat),Leq (givenF G m) m
 | [],m=>Leq.refl m
 |x::G,m=>by
  simp only[givenF];refine(given_leq G _).trans fun c i hi=> ?_;unfold bitAt at hi⊢;rw[getD_set_nat] at hi;split at hi
  ·rename_i e;rw[Nat.testBit_and,e.1,Bool.and_eq_true] at hi;exact hi.1
  ·exact hi
theorem given_one:∀(G:List (Int×Int)) (m:List Nat),∀x∈G,∀i,bitAt (givenF G m) x.1.toNat i→x.2=(i:Int)
 | [],_,x,hx,_,_=>by simp at hx
 |y::G,m,x,hx,i,hi=>by
  simp only[givenF] at hi;rcases List.mem_cons.1 hx with e|hx
  ·subst e;have h1:=given_leq G _ _ i hi;unfold bitAt at h1;rw[getD_set_nat] at h1;split at h1
   ·rw[Nat.testBit_and,Bool.and_eq_true,ofN_one] at h1;exact bit_of_one h1.2
   ·rename_i hn;by_cases hl:x.1.toNat<m.length
    ·exact absurd ⟨rfl,hl⟩ hn
    ·rw[gE,List.getElem?_eq_none (by omega)] at h1;simp at h1
  ·exact given_one G _ x hx i hi
theorem pass_leq:∀(B:List (List (Int×Int))) (m:List Nat) (st:Int),Leq (passF B m st).1 m
 | [],m,st=>Leq.refl m
 |l::ls,m,st=>by
  rw[pass_cons];split
  ·exact Leq.refl m
  ·split
   ·rename_i h1;refine(pass_leq ls _ 1).trans fun c i hi=> ?_;unfold bitAt letgo at hi;unfold bitAt;rw[getD_set_nat] at hi;split at hi
    ·rename_i e;obtain⟨e1,e2,e3,e4⟩:=has_sub (unit_one h1).2;have hh:=has_lt (unit_one h1).2;rw[e.1] at hi e3;have hx:(m.getD c 0).testBit (unitF m l).2.2.toNat=true:=by
      have:=bit_at (unit_one h1).2;unfold bitAt at this;rwa [e.1] at this
     have hb:bitN (unitF m l).2.2=2^(unitF m l).2.2.toNat:=by unfold bitN;rw[if_neg (by omega)]
     have h2:(m.getD c 0^^^2^(unitF m l).2.2.toNat)+2^(unitF m l).2.2.toNat=m.getD c 0:=by
      rw[add_or (by rw[Nat.testBit_xor,hx,Nat.testBit_two_pow_self];rfl)];apply Nat.eq_of_testBit_eq;intro k;rw[Nat.testBit_or,Nat.testBit_xor,Nat.testBit_two_pow];by_cases e:(unitF m l).2.2.toNat=k
      ·rw[←e,hx];simp
      ·rw[decide_eq_false e];simp
     rw[hb,show m.getD c 0-2^(unitF m l).2.2.toNat=m.getD c 0^^^2^(unitF m l).2.2.toNat by omega,Nat.testBit_xor,Nat.testBit_two_pow] at hi;by_cases e3:(unitF m l).2.2.toNat=i
     ·rw[←e3];exact hx
     ·rw[decide_eq_false e3,Bool.xor_false] at hi;exact hi
    ·exact hi
   ·exact pass_leq ls m st
theorem unit_012 (m:List Nat) (l:List (Int×Int)):(unitF m l).1=0∨(unitF m l).1=1∨(unitF m l).1=2:=by
 unfold unitF;split
 ·rw[oneF_all];split
  ·simp
  ·split<;>simp
 ·simp
theorem pass_more:∀(B:List (List (Int×Int))) (m:List Nat),(passF B m 1).2=1∨(passF B m 1).2=2
 | [],m=> .inl rfl
 |l::ls,m=>by
  rw[pass_cons];split
  ·exact .inr rfl
  ·split
   ·exact pass_more ls _
   ·exact pass_more ls m
theorem pass_none:∀(B:List (List (Int×Int))) (m:List Nat),(passF B m 0).2≠2→(passF B m 0).2≠1→(passF B m 0).1=m∧∀l∈B,(unitF m l).1=0
 | [],m,_,_=>⟨rfl,fun l hl=>by simp at hl⟩
 |l::ls,m,h2,h1=>by
  rw[pass_cons] at h1 h2⊢;by_cases u2:(unitF m l).1=2
  ·rw[if_pos u2] at h2;exact absurd rfl h2
  ·rw[if_neg u2] at h1 h2⊢;by_cases u1:(unitF m l).1=1
   ·rw[if_pos u1] at h1 h2;rcases pass_more ls (letgo m (unitF m l).2) with h|h
    ·exact absurd h h1
    ·exact absurd h h2
   ·rw[if_neg u1] at h1 h2⊢;obtain⟨a,b⟩:=pass_none ls m h2 h1;refine⟨a,fun k hk=> ?_⟩;rcases List.mem_cons.1 hk with e|hk
    ·rw[e];rcases unit_012 m l with h|h|h
     ·exact h
     ·exact absurd h u1
     ·exact absurd h u2
    ·exact b k hk
theorem spread_clo {p:Pr} (hc:checkP p=0) {B:List (List (Int×Int))} (hB:∀l∈B,∀x∈l,0≤x.1∧x.1<p.M.length):∀(n:Nat) (q:List Nat),q.sum<n→q.length=p.M.length→Smalls q→Leq q p.M→(spreadF p.g p.W B n q).2=true→Clo p B (spreadF p.g p.W B n q).1∧Leq (spreadF p.g p.W B n q).1 q
 |0,q,h,_,_,_,_=>by omega
 |n+1,q,h,hq,hs,hl,ho=>by
  have hc':checkP ⟨p.g,p.W,q⟩=0:=by rw[again_check hq];exact hc
  have e:=narM_len ⟨p.g,p.W,q⟩ hc';simp only at e;have hn:Smalls (narM ⟨p.g,p.W,q⟩):=nar_small hc' hs;have hnl:Leq (narM ⟨p.g,p.W,q⟩) q:=nar_given hc';have hsum:(narM ⟨p.g,p.W,q⟩).sum≤q.sum:=sum_le e fun c=>sub_le fun i hi=>hnl c i hi;have pf:=pass_facts p.M.length B (narM ⟨p.g,p.W,q⟩) 0 hB (by rw[e,hq]) hn;simp only[spreadF] at ho⊢;split at ho
  ·rename_i ho1;rw[if_pos ho1];split at ho
   ·cases ho
   ·rename_i h2;rw[if_neg h2];split at ho
    ·rename_i h1;rw[if_pos h1];obtain⟨a,b⟩:=spread_clo hc hB n _ (by have:=pf.2.2.2 rfl h1;omega) pf.1 pf.2.1 (((pass_leq _ _ _).trans hnl).trans hl) ho;exact⟨a,b.trans ((pass_leq _ _ _).trans hnl)⟩
    ·rename_i h1;rw[if_neg h1];obtain⟨a,b⟩:=pass_none B _ h2 h1;rw[a];refine⟨⟨by rw[e,hq],nar_stable hc',(nar_leq hc').trans (m0_mono hq hl),?_,b⟩,hnl⟩;have:=ho1;rw[narO_eq hc',narW_eq hc'] at this;exact this
  ·cases ho
theorem Clo.sub {p:Pr} {B B':List (List (Int×Int))} {R:List Nat} (h:Clo p B R) (hs:∀l∈B',l∈B):Clo p B' R:=⟨h.len,h.st,h.lo,h.ok,fun l hl=>h.no l (hs l hl)⟩
def Good (p:Pr) (F:List (List (Int×Int))):Prop:=∀j,j<F.length→(F.getD j []).any (oddP (seatsF p.g).1 (seatsF p.g).2)=false∧(spreadG p (F.getD j []) (F.take j)).2=false
theorem good_check {p:Pr} (hc:checkP p=0) {F:List (List (Int×Int))} (hG:Good p F) (hl:F.length≤65000) (he:∃P,F=P++[[]]):checkR p F=(0,0):=by
 have key:∀(z:Nat) (i:Int),0≤i→i+z=F.length→checkN p (seatsF p.g).1 (seatsF p.g).2 F z i=(0,0):=by
  intro z;induction z with
  |zero=>
   intro i i0 hi;obtain⟨P,e⟩:=he;simp only[checkN];rw[if_neg (by rw[e];simp),if_neg];rw[e,List.length_append,List.length_singleton,Nat.add_sub_cancel,gE,List.getElem?_append_right (Nat.le_refl _),Nat.sub_self];simp
  |succ z ih=>
   intro i i0 hi;obtain⟨g1,g2⟩:=hG i.toNat (by omega);simp only[checkN];rw[if_neg (by rw[g1];simp),if_neg (by rw[g2];simp)];exact ih (i+1) (by omega) (by omega)
 unfold checkR;rw[if_pos hc,if_neg (by omega)];exact key F.length 0 (by omega) (by omega)
theorem getD_app {P:List (List (Int×Int))} {x:List (Int×Int)} {j:Nat} (hj:j<P.length):(P++[x]).getD j []=P.getD j []:=by
 rw[gE,gE,List.getElem?_append_left hj]
theorem Good.snoc {p:Pr} {F:List (List (Int×Int))} (h:Good p F) {fx:List (Int×Int)} (h1:fx.any (oddP (seatsF p.g).1 (seatsF p.g).2)=false) (h2:(spreadG p fx F).2=false):Good p (F++[fx]):=by
 intro j hj;rw[List.length_append,List.length_singleton] at hj;by_cases e:j=F.length
 ·subst e;have e1:(F++[fx]).getD F.length []=fx:=by
   rw[gE,List.getElem?_append_right (Nat.le_refl _),Nat.sub_self];rfl
  rw[e1,List.take_append_of_le_length (Nat.le_refl _),List.take_length];exact⟨h1,h2⟩
 ·rw[getD_app (by omega),List.take_append_of_le_length (by omega)];exact h j (by omega)
theorem Good.seated {p:Pr} (hc:checkP p=0) {F:List (List (Int×Int))} (h:Good p F):∀l∈F,∀x∈l,(0≤x.2∧x.2<64)∧0≤x.1∧seatedB (slotsF p.g) x.1.toNat=true:=by
 intro l hl;obtain⟨j,hj,rfl⟩:=List.mem_iff_getElem.1 hl;have:=(h j hj).1;rw[gE,gQ hj] at this;exact seats_pair hc this
theorem seated_in {p:Pr} (hc:checkP p=0) {c:Nat} (h:seatedB (slotsF p.g) c=true):c<p.M.length:=by
 unfold seatedB at h;rw[List.any_eq_true] at h;obtain⟨s,hs,h⟩:=h;rw[List.any_eq_true] at h;obtain⟨z,hz,h⟩:=h;rw[beq_iff_eq] at h;have:=(cells_in hc hs z hz).2;omega
theorem pair_seats {p:Pr} (hc:checkP p=0) {c i:Int} (c0:0≤c) (hs:seatedB (slotsF p.g) c.toNat=true) (hi:0≤i∧i<64):oddP (seatsF p.g).1 (seatsF p.g).2 (c,i)=false:=by
 have hin:=seated_in hc hs;unfold seatedB at hs;rw[List.any_eq_true] at hs;obtain⟨s,hs,h⟩:=hs;rw[List.any_eq_true] at h;obtain⟨z,hz,h⟩:=h;rw[beq_iff_eq] at h;have ez:z=c:=by have:=(cells_in hc hs z hz).1;omega
 subst ez;obtain⟨j,hj,e⟩:=List.mem_iff_getElem.1 hs;obtain⟨k,hk,e2⟩:=List.mem_iff_getElem.1 hz;obtain⟨s1,s2,s3,s4⟩:=seats_are (checkP_zero hc).1 c0;have h4:=(checkP_zero hc).2.2.2;have sit:Sits (slotsF p.g) s.2.1 z j k:=⟨s,by rw[gQ hj,e],rfl,hk,by rw[gE,gQ hk];exact e2⟩;have b:∀A:List (Int×Int),z.toNat<A.length→A.getD z.toNat (0,0)=A.getD z.toNat (-1,0):=fun A h=>by
  rw[gE,gE,gQ h];rfl
 unfold oddP pairOk;simp only;rw[b _ (by omega),b _ (by omega),decide_eq_true (show 0≤z∧z< ((seatsF p.g).1.length:Int)∧0≤i∧i≤63 by omega)];cases hd:s.2.1 with
 |false=>
  rw[hd] at sit;have e3:=s1.1 j k sit;unfold sAt at e3;rw[e3,decide_eq_true (show(0:Int)≤((j:Int),(k:Int)).1 by simp only;omega)];rfl
 |true=>
  rw[hd] at sit;have e3:=s2.1 j k sit;unfold sAt at e3;rw[e3,decide_eq_true (show(0:Int)≤((j:Int),(k:Int)).1 by simp only;omega),Bool.or_true];rfl
theorem bit_64 {m i:Nat} (hm:m<W64) (h:m.testBit i=true):i<64:=by
 rcases Nat.lt_or_ge i 64 with h1|h1
 ·exact h1
 ·have h2:(2:Nat)^i≤m:=Nat.ge_two_pow_of_testBit h;have h3:(2:Nat)^64≤2^i:=Nat.pow_le_pow_right (by omega) h1;have h4:(2:Nat)^64=W64:=by decide
  omega
theorem has_nat {m i:Nat}:hasN m ((i:Nat):Int)=true↔i<64∧m.testBit i=true:=by
 unfold hasN;simp only[Bool.and_eq_true,decide_eq_true_eq,Int.toNat_natCast];exact⟨fun h=>⟨by omega,h.2.2⟩,fun h=>⟨by omega,by omega,h.2⟩⟩
theorem kids_fail {p:Pr} (hc:checkP p=0) (hM:Smalls p.M) {F0 F:List (List (Int×Int))} {fx:List (Int×Int)} (hF:Good p F) (hsub:∀l∈F0,l∈F) (hfx:fx.any (oddP (seatsF p.g).1 (seatsF p.g).2)=false) {c:Nat}
  (hcs:seatedB (slotsF p.g) c=true) (hk:∀i:Nat,bitAt (spreadG p fx F0).1 c i→fx++[((c:Int),(i:Int))]∈F):(spreadG p fx F).2=false:=by
 cases ho:(spreadG p fx F).2 with
 |false=>rfl
 |true=>
  exfalso;have hseat:=hF.seated hc;have hin:∀l∈F,∀x∈l,0≤x.1∧x.1<p.M.length:=fun l hl x hx=>by
   have:=hseat l hl x hx;have:=seated_in hc this.2.2;omega
  obtain⟨C,L⟩:=spread_clo hc hin _ _ (Nat.lt_succ_self _) (given_len fx p.M) (given_small fx hM) (given_leq fx p.M) ho;have h0:=clo_spread hc (C.sub hsub) (fun l hl x hx=>(hseat l (hsub l hl) x hx).2.2) ((givenF fx p.M).sum+1) (givenF fx p.M) (given_len _ _) L;obtain⟨i,hi,_⟩:=min_bit _ (ok_cell C.ok hcs);have hmem:=hk i (h0.2 c i hi);have hn:=C.no _ hmem;have hfs:=seats_pair hc hfx;have hall:∀x∈fx++[((c:Int),(i:Int))],hereB (spreadF p.g p.W F ((givenF fx p.M).sum+1) (givenF fx p.M)).1 x=true∧(openB (spreadF p.g p.W F ((givenF fx p.M).sum+1) (givenF fx p.M)).1 x=true→x=((c:Int),(i:Int))):=by
   intro x hx;rcases List.mem_append.1 hx with hx|hx
   ·have hx1:=hfs x hx;obtain⟨t,ht,_⟩:=min_bit _ (ok_cell C.ok hx1.2.2);have one:∀k,bitAt (spreadF p.g p.W F ((givenF fx p.M).sum+1) (givenF fx p.M)).1 x.1.toNat k→x.2=(k:Int):=fun k hk=>given_one fx p.M x hx k (L _ _ hk);have e1:=one t ht;have e:(spreadF p.g p.W F ((givenF fx p.M).sum+1) (givenF fx p.M)).1.getD x.1.toNat 0=bitN x.2:=by
     have hb:bitN x.2=2^x.2.toNat:=by unfold bitN;rw[if_neg (by omega)]
     apply Nat.eq_of_testBit_eq;intro k;rw[hb,Nat.testBit_two_pow];by_cases e2:x.2.toNat=k
     ·subst e2;rw[decide_eq_true rfl,show x.2.toNat=t by omega];exact ht
     ·rw[decide_eq_false e2];cases hkk:((spreadF p.g p.W F ((givenF fx p.M).sum+1) (givenF fx p.M)).1.getD x.1.toNat 0).testBit k with
      |false=>rfl
      |true=>
       have:=one k hkk;omega
    refine⟨has_bit.2 ⟨hx1.1.1,hx1.1.2,?_⟩,fun h=> ?_⟩
    ·rw[show x.2.toNat=t by omega];exact ht
    ·unfold openB at h;rw[e] at h;simp at h
   ·rw[List.mem_singleton] at hx;subst hx;have hsm:=(spread_small hc F ((givenF fx p.M).sum+1) (givenF fx p.M) (given_len _ _) (given_small fx hM)).at c;refine⟨has_bit.2 ⟨by simp only;omega,?_,hi⟩,fun _=>rfl⟩;have:i<64:=bit_64 hsm hi;simp only;omega
  have hu:(unitF (spreadF p.g p.W F ((givenF fx p.M).sum+1) (givenF fx p.M)).1 (fx++[((c:Int),(i:Int))])).1≠0:=by
   unfold unitF;rw[if_pos (List.all_eq_true.2 fun x hx=>(hall x hx).1),oneF_all];split
   ·simp
   ·rename_i hf;rw[if_pos]
    ·simp
    ·refine List.all_eq_true.2 fun x hx=> ?_;have hm:∀x∈(fx++[((c:Int),(i:Int))]).filter (openB (spreadF p.g p.W F ((givenF fx p.M).sum+1) (givenF fx p.M)).1),x=((c:Int),(i:Int)):=fun x hx=>(hall x (List.mem_filter.1 hx).1).2 (List.mem_filter.1 hx).2;rw[beq_iff_eq,hm x hx,hm _ (getD_in (List.length_pos_iff.2 hf))]
  exact hu hn
structure Left (p:Pr) (fx:List (Int×Int)) (s:RunS) (r:Int×RunS):Prop where
 good:Good p r.2.2.1
 old:∀l∈s.2.1,l∈r.2.2.1
 last:r.1=0→∃P,r.2.2.1=P++[fx]
 flag:r.1≠1→r.2.2.2=s.2.2
 found:r.1=1→r.2.2.2=true
theorem kids_left {p:Pr} (hc:checkP p=0) (hM:Smalls p.M) {rec:List (Int×Int)→RunS→Int×RunS} {fx:List (Int×Int)} {F0:List (List (Int×Int))} {c:Nat} (hfx:fx.any (oddP (seatsF p.g).1 (seatsF p.g).2)=false)
  (hcs:seatedB (slotsF p.g) c=true) (h:∀fx s,Good p s.2.1→fx.any (oddP (seatsF p.g).1 (seatsF p.g).2)=false→Left p fx s (rec fx s)):∀(zs:List Int) (s:RunS),Good p s.2.1→(∀l∈F0,l∈s.2.1)→(∀z∈zs,0≤z∧z<64)→
  (∀i:Nat,bitAt (spreadG p fx F0).1 c i→((i:Nat):Int)∈zs∨fx++[((c:Int),(i:Int))]∈s.2.1)→Left p fx s (kidsF rec fx c zs s)
 | [],s,h1,h2,h3,h4=>by
  simp only[kidsF];refine⟨h1.snoc hfx (kids_fail hc hM h1 h2 hfx hcs fun i hi=>(h4 i hi).resolve_left (by simp)),fun l hl=>List.mem_append_left _ hl,fun _=>⟨_,rfl⟩,fun _=>rfl,fun e=>absurd e (by simp)⟩
 |z::zs,s,h1,h2,h3,h4=>by
  have hz:=h3 z List.mem_cons_self;have hfx':(fx++[((c:Int),z)]).any (oddP (seatsF p.g).1 (seatsF p.g).2)=false:=by
   rw[List.any_append,hfx,Bool.false_or,List.any_cons,List.any_nil,Bool.or_false];exact pair_seats hc (by omega) (by rw[Int.toNat_natCast];exact hcs) hz
  have q:=h _ s h1 hfx';simp only[kidsF];split
  ·rename_i h0;obtain⟨P,hP⟩:=q.last h0;have k:=kids_left hc hM hfx hcs h zs (rec (fx++[((c:Int),z)]) s).2 q.good (fun l hl=>q.old l (h2 l hl)) (fun y hy=>h3 y (List.mem_cons_of_mem _ hy)) (fun i hi=>by
    rcases h4 i hi with e|e
    ·rcases List.mem_cons.1 e with e|e
     ·refine .inr ?_;rw[e,hP];exact List.mem_append_right _ List.mem_cons_self
     ·exact .inl e
    ·exact .inr (q.old _ e))
   exact⟨k.good,fun l hl=>k.old l (q.old l hl),k.last,fun e=>(k.flag e).trans (q.flag (by omega)),k.found⟩
  ·rename_i h0;exact⟨q.good,q.old,fun e=>absurd e h0,q.flag,q.found⟩
theorem many_ne {m:Nat} (h:manyB m=true):m≠0:=by
 rintro rfl
 simp[manyB] at h
theorem clo_seated {p:Pr} {B:List (List (Int×Int))} {R:List Nat} (h:Clo p B R) {c:Nat} (h0:R.getD c 0≠0):seatedB (slotsF p.g) c=true:=by
 obtain⟨i,hi,_⟩:=min_bit _ h0;have h1:=h.lo c i hi;have hl:c<p.M.length:=by have:=bit_lt h1;rwa [m0_len] at this
 unfold bitAt at h1;rw[m0_get hl] at h1;split at h1
 ·assumption
 ·simp at h1
theorem good_clo {p:Pr} (hc:checkP p=0) (hM:Smalls p.M) {F:List (List (Int×Int))} (hF:Good p F) (fx:List (Int×Int)) (ho:(spreadG p fx F).2=true):Clo p F (spreadG p fx F).1∧Leq (spreadG p fx F).1 (givenF fx p.M):=
 spread_clo hc (fun l hl x hx=>by
  have:=hF.seated hc l hl x hx;have:=seated_in hc this.2.2;omega) _ _ (Nat.lt_succ_self _) (given_len fx p.M) (given_small fx hM) (given_leq fx p.M) ho
theorem run_left {p:Pr} (hc:checkP p=0) (hM:Smalls p.M):∀(n:Nat) (fx:List (Int×Int)) (s:RunS),Good p s.2.1→fx.any (oddP (seatsF p.g).1 (seatsF p.g).2)=false→Left p fx s (runF p n fx s)
 |0,fx,s,h1,h2=>by
  simp only[runF];exact⟨h1,fun l hl=>hl,fun e=>absurd e (by simp),fun _=>rfl,fun e=>absurd e (by simp)⟩
 |n+1,fx,s,h1,h2=>by
  simp only[runF,runB];split
  ·exact⟨h1,fun l hl=>hl,fun e=>absurd e (by simp),fun _=>rfl,fun e=>absurd e (by simp)⟩
  ·split
   ·rename_i ho;split
    ·exact⟨h1,fun l hl=>hl,fun e=>absurd e (by simp),fun e=>absurd rfl e,fun _=>rfl⟩
    ·rename_i hf;rcases findU_at (spreadG p fx s.2.1).1 0 (by omega) with⟨e,_⟩|⟨j,e,hj,hm,_⟩
     ·omega
     ·rw[Int.zero_add] at e;obtain⟨C,L⟩:=good_clo hc hM h1 fx ho;rw[e,Int.toNat_natCast];have hss:=(spread_small hc s.2.1 ((givenF fx p.M).sum+1) (givenF fx p.M) (given_len _ _) (given_small fx hM)).at j;have k:=kids_left hc hM (F0:=s.2.1) h2 (clo_seated C (many_ne hm)) (run_left hc hM n) _ (s.1+1,s.2) h1 (fun l hl=>hl) (fun z hz=>has_lt (mem_list.1 hz)) (fun i hi=> .inl (mem_list.2 (by
       have hi64:i<64:=bit_64 hss hi;exact has_nat.2 ⟨hi64,hi⟩)))
      exact⟨k.good,k.old,k.last,k.flag,k.found⟩
   ·rename_i ho;refine⟨h1.snoc h2 (by simpa using ho),fun l hl=>List.mem_append_left _ hl,fun _=>⟨_,rfl⟩,fun _=>rfl,fun e=>absurd e (by simp)⟩
theorem prov_taken {p:Pr} (hc:checkP p=0) (hM:Smalls p.M) (h:(provF p).2=0):Good p (provF p).1∧(∃P,(provF p).1=P++[[]])∧(provF p).1.length≤65000:=by
 have q:=run_left hc hM (66000-(0:Int)).toNat [] (0,[],false) (fun j hj=>by simp at hj) rfl;have t:=runS_ok hc [] (0,[],false) ⟨by simp,by simp,fun l hl=>by simp at hl⟩ (by simp) ⟨by simp,fun x hx=>by simp at hx⟩;have e:runF p (66000-(0:Int)).toNat [] (0,[],false)=runS p [] (0,[],false):=rfl;rw[e] at q;unfold provF at h⊢;rw[if_pos hc] at h⊢;obtain⟨r,hr⟩:∃r,runS p [] (0,[],false)=r:=⟨_,rfl⟩;rw[hr] at h q t⊢;cases hb:r.2.2.2 with
 |true=>rw[hb,if_pos rfl] at h;cases h
 |false=>
  rw[hb,if_neg (by simp)] at h;rw[if_neg (by simp)];by_cases h2:r.1=2∨((r.2.2.1.length:Nat):Int)>65000
  ·rw[if_pos h2] at h;cases h
  ·rw[if_neg h2];have h0:r.1=0:=by
    rcases t.how with h|h|h
    ·exact h
    ·have:=q.found h;rw[hb] at this;cases this
    ·exact absurd (.inl h) h2
   exact⟨q.good,q.last h0,by simp only;omega⟩
theorem prov_checked {p:Pr} (hc:checkP p=0) (hM:Smalls p.M) (h:(provF p).2=0):checkR p (provF p).1=(0,0):=by
 obtain⟨a,b,c⟩:=prov_taken hc hM h;exact good_check hc a c b
theorem stepF_in {g:Gr} {i y:Int} (h:(stepF g i y).2=true):0≤i∧stepF g i y=stepIn g i y:=by
 unfold stepF at h⊢;split at h
 ·rename_i ho;rw[if_pos ho];unfold openF at ho;simp only[Bool.and_eq_true,decide_eq_true_eq] at ho;exact⟨ho.1.1.2,rfl⟩
 ·cases h
theorem across_at {g:Gr} (hw:0<g.w) {i:Int}:∀k:Nat,k< (runOn g 0 i).length→(runOn g 0 i).getD k 0=i+k∧(i+k)/g.w=i/g.w
 |0,_=>by
  have e:(runOn g 0 i).getD 0 0=i:=rfl;rw[e];simp
 |k+1,h=>by
  obtain⟨h1,h2⟩:=across_at (i:=i) hw k (by omega);have h3:=run_at (g:=g) (y:=0) (.inl rfl) 256 i k h;have e1:(i::onT g 0 256 i).getD k 0=i+k:=h1;rw[e1] at h3;obtain⟨h0,h4⟩:=stepF_in (g:=g) (i:=i+k) (y:=0) (by rw[h3]);rw[h4] at h3;unfold stepIn at h3;rw[if_pos rfl] at h3;have h5:=stepTo_iff.1 h3;have e2:(runOn g 0 i).getD (k+1) 0=(i::onT g 0 256 i).getD (k+1) 0:=rfl;have h6:=h5.1;simp only[Bool.and_eq_true,decide_eq_true_eq] at h6;refine⟨by rw[e2,h5.2.2];push_cast;omega,?_⟩
  rw[←h2];have hd:=Int.emod_add_mul_ediv (i+k) g.w;have hm:=Int.emod_nonneg (i+k) (show g.w≠0 by omega);have:=(Int.ediv_emod_unique (a:=i+((k+1:Nat):Int)) (b:=g.w) (r:=(i+k)%g.w+1) (q:=(i+k)/g.w) hw).2 ⟨by push_cast;omega,by omega,by omega⟩;exact this.1
theorem down_at {g:Gr} {i:Int}:∀k:Nat,k< (runOn g 1 i).length→(runOn g 1 i).getD k 0=i+k*g.w
 |0,_=>by
  have e:(runOn g 1 i).getD 0 0=i:=rfl;rw[e];simp
 |k+1,h=>by
  have h1:=down_at (g:=g) (i:=i) k (by omega);have h3:=run_at (g:=g) (y:=1) (.inr rfl) 256 i k h;have e1:(i::onT g 1 256 i).getD k 0=i+k*g.w:=h1;rw[e1] at h3;obtain⟨h0,h4⟩:=stepF_in (g:=g) (i:=i+k*g.w) (y:=1) (by rw[h3]);rw[h4] at h3;unfold stepIn at h3;rw[if_neg (by decide),if_pos rfl] at h3;have h5:=stepTo_iff.1 h3;have e2:(runOn g 1 i).getD (k+1) 0=(i::onT g 1 256 i).getD (k+1) 0:=rfl;rw[e2,h5.2.2];rw[show((k+1:Nat):Int)*g.w=k*g.w+g.w by rw[show((k+1:Nat):Int)=k+1 by omega,Int.add_mul,Int.one_mul]];omega
theorem slot_cells {g:Gr} (hc:checkF g=0) {s:Slt} (hs:s∈slotsF g):∃i,0≤i∧s.2.2=runOn g (dirI s.2.1) i:=by
 unfold slotsF at hs;rw[if_pos hc] at hs;obtain⟨i,h0,h1,_⟩:=(slots_runs (g:=g) _ 0 0 (by omega) s hs).1.run;exact⟨i,h0,h1⟩
def fstC (s:Slt):Int:=s.2.2.getD 0 0
theorem slots_split {g:Gr} (c:Int):∀(m:Nat) (i num:Int),0≤i→∃P Q,slotsFrom g m i num=P++Q∧(∀s∈P,fstC s≤c)∧∀s∈Q,c<fstC s
 |0,i,num,_=>⟨[],[],rfl,fun s h=>by simp at h,fun s h=>by simp at h⟩
 |m+1,i,num,i0=>by
  by_cases h:c<i
  ·refine⟨[],_,(List.nil_append _).symm,fun s h=>by simp at h,fun s hs=> ?_⟩;have:=(slots_runs (g:=g) (m+1) i num i0 s hs).2;unfold fstC;omega
  ·obtain⟨P,Q,e,hP,hQ⟩:=slots_split (g:=g) c m (i+1) (if beginsB g i 0||beginsB g i 1 then num+1 else num) (by omega);simp only[slotsFrom];rw[e];refine⟨(if beginsB g i 0 then [(num+1,false,runOn g 0 i)] else [])++((if beginsB g i 1 then [(num+1,true,runOn g 1 i)] else [])++P),Q,by simp only[List.append_assoc],fun s hs=> ?_,hQ⟩;rcases List.mem_append.1 hs with hs|hs
   ·split at hs
    ·rw[List.mem_singleton.1 hs];show i≤c;omega
    ·simp at hs
   ·rcases List.mem_append.1 hs with hs|hs
    ·split at hs
     ·rw[List.mem_singleton.1 hs];show i≤c;omega
     ·simp at hs
    ·exact hP s hs
def sumL (f:List Int→Nat):List (List Int)→Nat
 | []=>0
 |w::ws=>f w+sumL f ws
def cntS (M:List Nat) (W:List (List Int)) (G:List Int→Bool):List Slt→List Int→Nat
 | [],f=>if G f then 1 else 0
 |s::ss,f=>(if G f then 1 else 0)+sumL (fun w=>match wlayF M f s.2.2 w f with|some g=>cntS M W G ss g|none=>0) W
theorem loop_full {rec:List Int→List (List Int)×Int→List (List Int)×Int} {M:List Nat} {C f:List Int} {N:List Int→Nat} (hup:∀g q,q.2≤(rec g q).2) (h:∀g q,(rec g q).2≤4000→(rec g q).2=q.2+(N g:Int)):∀(V:List (List Int)) (q:List (List Int)×Int),q.2≤(loopD rec M C f V q).2∧((loopD rec M C f V q).2≤4000→(loopD rec M C f V q).2=q.2+(sumL (fun w=>match wlayF M f C w f with|some g=>N g|none=>0) V:Nat))
 | [],q=>⟨Int.le_refl _,fun _=>by simp[loopD,sumL]⟩
 |w::ws,q=>by
  simp only[loopD];split
  ·cases e:wlayF M f C w f with
   |none=>
    simp only;obtain⟨a,b⟩:=loop_full (M:=M) (C:=C) (f:=f) hup h ws q;refine⟨a,fun hh=> ?_⟩;rw[b hh];simp only[sumL,e];omega
   |some g=>
    simp only;obtain⟨a,b⟩:=loop_full (M:=M) (C:=C) (f:=f) hup h ws (rec g q);have:=hup g q;refine⟨by omega,fun hh=> ?_⟩;rw[b hh,h g q (by omega)];simp only[sumL,e];omega
  ·rename_i hq;exact⟨Int.le_refl _,fun hh=>absurd hh hq⟩
theorem down_full (M:List Nat) (V:List (List Int)):∀(ss:List Slt) (f:List Int) (q:List (List Int)×Int),q.2< (downF M V ss f q).2∧((downF M V ss f q).2≤4000→(downF M V ss f q).2=q.2+(cntS M V (fun _=>true) ss f:Nat))
 | [],f,q=>by simp only[downF,cntS];exact⟨by omega,fun _=>by simp⟩
 |s::ss,f,q=>by
  obtain⟨a,b⟩:=loop_full (rec:=downF M V ss) (M:=M) (C:=s.2.2) (f:=f) (N:=cntS M V (fun _=>true) ss) (fun g q=>Int.le_of_lt (down_full M V ss g q).1) (fun g q=>(down_full M V ss g q).2) V (q.1,q.2+1);simp only at a b;simp only[downF];refine⟨by omega,fun hh=> ?_⟩;rw[b hh];simp only[cntS,if_true];omega
theorem sum_le_of {f g:List Int→Nat} (h:∀w,f w≤g w):∀V:List (List Int),sumL f V≤sumL g V
 | []=>Nat.le_refl _
 |w::ws=>by
  simp only[sumL];have:=h w;have:=sum_le_of h ws;omega
theorem sum_mem {f:List Int→Nat} {w:List Int}:∀{V:List (List Int)},w∈V→f w≤sumL f V
 | [],h=>by simp at h
 |v::vs,h=>by
  simp only[sumL];rcases List.mem_cons.1 h with e|h
  ·rw[e];omega
  ·have:=sum_mem (f:=f) h;omega
theorem sum_add {f g:List Int→Nat}:∀V:List (List Int),sumL (fun w=>f w+g w) V=sumL f V+sumL g V
 | []=>rfl
 |w::ws=>by
  simp only[sumL];rw[sum_add ws];omega
theorem cnt_mono (M:List Nat) (V:List (List Int)) {G H:List Int→Bool} (h:∀f,G f=true→H f=true):∀(ss:List Slt) (f:List Int),cntS M V G ss f≤cntS M V H ss f:=by
 have one:∀f,(if G f then 1 else 0)≤(if H f then 1 else 0:Nat):=fun f=>by
  by_cases hg:G f=true
  ·rw[if_pos hg,if_pos (h f hg)];omega
  ·rw[if_neg hg];omega
 intro ss;induction ss with
 |nil=>exact one
 |cons s ss ih=>
  intro f;simp only[cntS];refine Nat.add_le_add (one f) (sum_le_of (fun w=> ?_) V);split
  ·exact ih _
  ·omega
theorem cnt_two (M:List Nat) (V:List (List Int)) {G1 G2 H:List Int→Bool} (h1:∀f,G1 f=true→H f=true) (h2:∀f,G2 f=true→H f=true) (hx:∀f,G1 f=true→G2 f=true→False):∀(ss:List Slt) (f:List Int),cntS M V G1 ss f+cntS M V G2 ss f≤cntS M V H ss f:=by
 have one:∀f,(if G1 f then 1 else 0)+(if G2 f then 1 else 0)≤(if H f then 1 else 0:Nat):=fun f=>by
  by_cases hg:G1 f=true
  ·have:¬G2 f=true:=fun h=>hx f hg h;rw[if_pos hg,if_neg this,if_pos (h1 f hg)];omega
  ·rw[if_neg hg];by_cases hg2:G2 f=true
   ·rw[if_pos hg2,if_pos (h2 f hg2)];omega
   ·rw[if_neg hg2];omega
 intro ss;induction ss with
 |nil=>exact one
 |cons s ss ih=>
  intro f;simp only[cntS];have a:=one f;have b:sumL (fun w=>match wlayF M f s.2.2 w f with|some g=>cntS M V G1 ss g|none=>0) V+sumL (fun w=>match wlayF M f s.2.2 w f with|some g=>cntS M V G2 ss g|none=>0) V≤sumL (fun w=>match wlayF M f s.2.2 w f with|some g=>cntS M V H ss g|none=>0) V:=by
   rw[←sum_add];refine sum_le_of (fun w=> ?_) V;cases wlayF M f s.2.2 w f with
   |none=>simp
   |some g=>exact ih g
  omega
theorem fit_word {p:Pr} {B:List (List (Int×Int))} {R:List Nat} (C:Clo p B R) {s:Slt} (hs:s∈slotsF p.g) {k a:Nat} {z:Int} (hz:s.2.2[k]? =some z) (ha:bitAt R z.toNat a):∃w∈p.W,fitL R s.2.2 w=true∧w.getD k 0=(a:Int):=by
 obtain⟨_,w,h1,h2,h3⟩:=(there_bits _ _ _ _).1 (C.st s hs k z hz a ha);exact⟨w,h1,h2,h3⟩
theorem any_word {p:Pr} {B:List (List (Int×Int))} {R:List Nat} (C:Clo p B R) {s:Slt} (hs:s∈slotsF p.g):∃w∈p.W,fitL R s.2.2 w=true:=by
 have h:=C.ok;unfold okF at h;rw[Bool.and_eq_true,List.all_eq_true] at h;have h1:=h.1 (idxF (fitL R s.2.2) 0 p.W) (List.mem_map.2 ⟨s,hs,rfl⟩);have h2:0< (idxF (fitL R s.2.2) 0 p.W).length:=by have:=of_decide_eq_true h1;omega
 exact idx_some.1 h2
theorem fit_bit {R:List Nat} {cs w:List Int} (h:fitL R cs w=true) {k:Nat} {z:Int} (hz:cs[k]? =some z):∃a:Nat,w.getD k 0=(a:Int)∧bitAt R z.toNat a:=by
 have h1:=((fit_iff R cs w).1 h).2 k z hz;obtain⟨a,b,c⟩:=has_bit.1 h1;exact⟨(w.getD k 0).toNat,by omega,c⟩
theorem sits_of {g:Gr} {s:Slt} (hs:s∈slotsF g) {k:Nat} {z:Int} (hz:s.2.2[k]? =some z):∃j,(slotsF g)[j]? =some s∧Sits (slotsF g) s.2.1 z j k:=by
 obtain⟨j,hj,e⟩:=List.mem_iff_getElem.1 hs;obtain⟨hk,e2⟩:=List.getElem?_eq_some_iff.1 hz;exact⟨j,by rw[gQ hj,e],s,by rw[gQ hj,e],rfl,hk,by rw[gE,hz];rfl⟩
theorem same_slot {g:Gr} (hc:checkF g=0) {s t:Slt} (hs:s∈slotsF g) (ht:t∈slotsF g) (hd:s.2.1=t.2.1) {k k':Nat} {z:Int} (h1:s.2.2[k]? =some z) (h2:t.2.2[k']? =some z):s=t∧k=k':=by
 obtain⟨j,e1,s1⟩:=sits_of hs h1;obtain⟨j',e2,s2⟩:=sits_of ht h2;rw[←hd] at s2;obtain⟨a,b⟩:=sits_unique hc s1 s2;subst a;rw[e1] at e2;exact⟨Option.some.inj e2,b⟩
theorem one_cross {g:Gr} (hc:checkF g=0) {s t:Slt} (hs:s∈slotsF g) (ht:t∈slotsF g) (h0:s.2.1=false) (h1:t.2.1=true) {k1 k2 j1 j2:Nat} {y z:Int} (a1:s.2.2[k1]? =some y) (a2:t.2.2[j1]? =some y) (b1:s.2.2[k2]? =some z) (b2:t.2.2[j2]? =some z):y=z:=by
 have hw:0<g.w:=by have:=side_iff.1 (chk0.1 hc).2.1;omega
 obtain⟨i,i0,e1⟩:=slot_cells hc hs;obtain⟨d,d0,e2⟩:=slot_cells hc ht;rw[h0] at e1;rw[h1] at e2;have at0:∀(k:Nat) (z:Int),s.2.2[k]? =some z→z=i+k∧z/g.w=i/g.w:=fun k z h=>by
  obtain⟨hk,e⟩:=List.getElem?_eq_some_iff.1 h;have:=across_at (g:=g) hw (i:=i) k (by rw[e1] at hk;exact hk);rw[←this.2,←this.1];have e3:(runOn g 0 i).getD k 0=z:=by
   have e4:runOn g 0 i=s.2.2:=e1.symm;rw[e4,gE,h];rfl
  rw[e3];exact⟨rfl,rfl⟩
 have at1:∀(k:Nat) (z:Int),t.2.2[k]? =some z→z=d+k*g.w:=fun k z h=>by
  obtain⟨hk,e⟩:=List.getElem?_eq_some_iff.1 h;have:=down_at (g:=g) (i:=d) k (by rw[e2] at hk;exact hk);rw[←this];have e4:runOn g 1 d=t.2.2:=e2.symm;rw[e4,gE,h];rfl
 have ya:=at0 k1 y a1;have za:=at0 k2 z b1;have yd:=at1 j1 y a2;have zd:=at1 j2 z b2;have key:∀u v:Int,u/g.w=v/g.w→∀n m:Nat,u=d+n*g.w→v=d+m*g.w→n≤m→u=v:=by
  intro u v huv n m hu hv hnm;by_cases e:n=m
  ·rw[hu,hv,e]
  ·exfalso;have h2:v=u+((m-n:Nat):Int)*g.w:=by
    rw[hu,hv,show((m-n:Nat):Int)=(m:Int)-n by omega,Int.sub_mul];omega
   rw[h2,Int.add_mul_ediv_right _ _ (by omega)] at huv;omega
 rcases Nat.le_total j1 j2 with h|h
 ·exact key y z (by rw[ya.2,za.2]) j1 j2 yd zd h
 ·exact(key z y (by rw[ya.2,za.2]) j2 j1 zd yd h).symm
theorem across_has {g:Gr} (hc:checkF g=0) {s:Slt} (hs:s∈slotsF g) (h0:s.2.1=false) {c z:Int} {k:Nat} (hf:fstC s≤c) (hz:s.2.2[k]? =some z) (hcz:c≤z):∃j:Nat,s.2.2[j]? =some c:=by
 have hw:0<g.w:=by have:=side_iff.1 (chk0.1 hc).2.1;omega
 obtain⟨i,i0,e1⟩:=slot_cells hc hs;rw[h0] at e1;have e4:runOn g 0 i=s.2.2:=e1.symm;obtain⟨hk,e⟩:=List.getElem?_eq_some_iff.1 hz;have hk':k< (runOn g 0 i).length:=by rw[e4];exact hk
 have h1:=(across_at (g:=g) hw (i:=i) k hk').1;rw[e4,gE,hz] at h1;have h1:z=i+k:=h1;have hfi:fstC s=i:=by
  unfold fstC;rw[←e4];rfl
 have hj:(c-i).toNat< (runOn g 0 i).length:=by omega
 refine⟨(c-i).toNat,?_⟩;have h2:=(across_at (g:=g) hw (i:=i) _ hj).1;rw[e4] at hj h2;rw[gE,gQ hj] at h2;rw[gQ hj];have h2:s.2.2[(c-i).toNat]=i+((c-i).toNat:Int):=h2;rw[h2];congr 1
 omega
structure Pick (p:Pr) (R:List Nat) (c:Int) (i:Int) (wX:List Int) (s:Slt) (w:List Int):Prop where
 inW:w∈p.W
 fit:fitL R s.2.2 w=true
 at_c:∀k:Nat,s.2.2[k]? =some c→w.getD k 0=i
 isX:s.2.1=false→(∃k:Nat,s.2.2[k]? =some c)→w=wX
 cross:s.2.1=true→(∀k:Nat,s.2.2[k]? ≠some c)→∀X∈slotsF p.g,X.2.1=false→(∃k:Nat,X.2.2[k]? =some c)→∀(k k':Nat) (z:Int),s.2.2[k]? =some z→X.2.2[k']? =some z→w.getD k 0=wX.getD k' 0
theorem picks {p:Pr} (hc:checkP p=0) {B:List (List (Int×Int))} {R:List Nat} (C:Clo p B R) {c:Nat} {i:Nat} (hi:(∃s∈slotsF p.g,∃k:Nat,s.2.2[k]? =some (c:Int))→bitAt R c i):∃wX:List Int,∀s∈slotsF p.g,∃w,Pick p R (c:Int) (i:Int) wX s w:=by
 have hg:=(checkP_zero hc).1;have hx:∃wX:List Int,∀X∈slotsF p.g,X.2.1=false→(∃k:Nat,X.2.2[k]? =some (c:Int))→wX∈p.W∧fitL R X.2.2 wX=true∧∀k:Nat,X.2.2[k]? =some (c:Int)→wX.getD k 0=(i:Int):=by
  by_cases h:∃X∈slotsF p.g,X.2.1=false∧∃k:Nat,X.2.2[k]? =some (c:Int)
  ·obtain⟨X,hX,h0,k,hk⟩:=h;obtain⟨w,w1,w2,w3⟩:=fit_word C hX hk (a:=i) (by rw[Int.toNat_natCast];exact hi ⟨X,hX,k,hk⟩);refine⟨w,fun Y hY h0' ⟨k',hk'⟩=> ?_⟩;obtain⟨e,e2⟩:=same_slot hg hY hX (by rw[h0,h0']) hk' hk;subst e;refine⟨w1,w2,fun k2 hk2=> ?_⟩;rw[(same_slot hg hY hY rfl hk2 hk).2];exact w3
  ·exact⟨[],fun X hX h0 hk=>absurd ⟨X,hX,h0,hk⟩ h⟩
 obtain⟨wX,hX⟩:=hx;refine⟨wX,fun s hs=> ?_⟩;by_cases hcs:∃k:Nat,s.2.2[k]? =some (c:Int)
 ·cases hd:s.2.1 with
  |false=>
   obtain⟨a,b,d⟩:=hX s hs hd hcs;exact⟨wX,a,b,d,fun _ _=>rfl,fun h=>by rw[hd] at h;cases h⟩
  |true=>
   obtain⟨k,hk⟩:=hcs;obtain⟨w,w1,w2,w3⟩:=fit_word C hs hk (a:=i) (by rw[Int.toNat_natCast];exact hi ⟨s,hs,k,hk⟩);refine⟨w,w1,w2,fun k2 hk2=> ?_,fun h=>(by rw[hd] at h;cases h),fun _ h=>absurd hk (h k)⟩;rw[(same_slot hg hs hs rfl hk2 hk).2];exact w3
 ·have hno:∀k:Nat,s.2.2[k]? ≠some (c:Int):=fun k h=>hcs ⟨k,h⟩;by_cases hcr:s.2.1=true∧∃X∈slotsF p.g,X.2.1=false∧(∃k:Nat,X.2.2[k]? =some (c:Int))∧∃(k k':Nat) (z:Int),s.2.2[k]? =some z∧X.2.2[k']? =some z
  ·obtain⟨hd,X,hXm,h0,hXc,k,k',z,hk,hk'⟩:=hcr;obtain⟨a,b,_⟩:=hX X hXm h0 hXc;obtain⟨n,n1,n2⟩:=fit_bit b hk';obtain⟨w,w1,w2,w3⟩:=fit_word C hs hk n2;refine⟨w,w1,w2,fun k2 hk2=>absurd hk2 (hno k2),fun h=>(by rw[hd] at h;cases h),fun _ _ Y hY hY0 hYc k2 k2' z2 e1 e2=> ?_⟩;obtain⟨kc,hkc⟩:=hXc;obtain⟨kd,hkd⟩:=hYc;have eY:=(same_slot hg hY hXm (by rw[hY0,h0]) hkd hkc).1;subst eY;have ez:=one_cross hg hY hs hY0 hd e2 e1 hk' hk;subst ez;rw[(same_slot hg hs hs rfl e1 hk).2,(same_slot hg hY hY rfl e2 hk').2,w3,n1]
  ·obtain⟨w,w1,w2⟩:=any_word C hs;exact⟨w,w1,w2,fun k2 hk2=>absurd hk2 (hno k2),fun _ h=>absurd h hcs,fun hd _ X hXm h0 hXc k k' z e1 e2=>absurd ⟨hd,X,hXm,h0,hXc,k,k',z,e1,e2⟩ hcr⟩
theorem picks_agree {p:Pr} (hc:checkP p=0) {R:List Nat} {c:Nat} {i:Nat} (hdec:∀j,j<c→∀a b,bitAt R j a→bitAt R j b→a=b) {wX:List Int} {pw:Slt→List Int} {P:List Slt} (hP:∀s∈P,s∈slotsF p.g∧fstC s≤(c:Int)) (hw:∀s∈P,Pick p R (c:Int) (i:Int) wX s (pw s)):∀s∈P,∀t∈P,∀(k k':Nat) (z:Int),s.2.2[k]? =some z→t.2.2[k']? =some z→(pw s).getD k 0=(pw t).getD k' 0:=by
 have hg:=(checkP_zero hc).1;have half:∀s∈P,∀t∈P,s.2.1=false→t.2.1=true→∀(k k':Nat) (z:Int),s.2.2[k]? =some z→t.2.2[k']? =some z→(pw s).getD k 0=(pw t).getD k' 0:=by
  intro s hs t ht h0 h1 k k' z e1 e2;have qs:=hw s hs;have qt:=hw t ht;have z0:=(cells_in hc (hP s hs).1 z (List.mem_of_getElem? e1)).1;rcases Int.lt_trichotomy z c with h|h|h
  ·obtain⟨a,a1,a2⟩:=fit_bit qs.fit e1;obtain⟨b,b1,b2⟩:=fit_bit qt.fit e2;rw[a1,b1,hdec z.toNat (by omega) a b a2 b2]
  ·subst h;rw[qs.at_c k e1,qt.at_c k' e2]
  ·obtain⟨j,hj⟩:=across_has hg (hP s hs).1 h0 (hP s hs).2 e1 (by omega);rw[qs.isX h0 ⟨j,hj⟩];refine(qt.cross h1 (fun k2 hk2=> ?_) s (hP s hs).1 h0 ⟨j,hj⟩ k' k z e2 e1).symm;have:=one_cross hg (hP s hs).1 (hP t ht).1 h0 h1 hj hk2 e1 e2;omega
 intro s hs t ht k k' z e1 e2;cases h0:s.2.1 with
 |false=>
  cases h1:t.2.1 with
  |false=>
   obtain⟨a,b⟩:=same_slot hg (hP s hs).1 (hP t ht).1 (by rw[h0,h1]) e1 e2;rw[a,b]
  |true=>exact half s hs t ht h0 h1 k k' z e1 e2
 |true=>
  cases h1:t.2.1 with
  |false=>exact(half t ht s hs h1 h0 k' k z e2 e1).symm
  |true=>
   obtain⟨a,b⟩:=same_slot hg (hP s hs).1 (hP t ht).1 (by rw[h0,h1]) e1 e2;rw[a,b]
theorem wlay_ok {M:List Nat} {f:List Int}:∀{cs w g:List Int},w.length=cs.length→(∀(k:Nat) (z:Int),cs[k]? =some z→hasN (M.getD z.toNat 0) (w.getD k 0)=true∧(0≤f.getD z.toNat 0→f.getD z.toNat 0=w.getD k 0))→∃h,wlayF M f cs w g=some h
 | [],[],g,_,_=>⟨g,rfl⟩
 | [],_::_,_,h,_=>by simp at h
 |_::_,[],_,h,_=>by simp at h
 |c::cs,x::ws,g,h,hk=>by
  obtain⟨h1,h2⟩:=hk 0 c rfl;have h1:hasN (M.getD c.toNat 0) x=true:=h1;have h2:0≤f.getD c.toNat 0→f.getD c.toNat 0=x:=h2;simp only[wlayF];rw[if_neg]
  ·exact wlay_ok (by simpa using h) (fun k z hz=>hk (k+1) z hz)
  ·rw[h1];simp only[Bool.not_true,Bool.or_false,Bool.and_eq_true,decide_eq_true_eq,bne_iff_ne,ne_eq,not_and,Decidable.not_not];exact fun h=>h2 h
structure Grown (M:List Nat) (pw:Slt→List Int) (D:List Slt) (f:List Int):Prop where
 len:f.length=M.length
 has:∀s∈D,∀(k:Nat) (z:Int),s.2.2[k]? =some z→f.getD z.toNat (-1)=(pw s).getD k 0
 only:∀j,0≤f.getD j (-1)→∃s∈D,∃(k:Nat) (z:Int),s.2.2[k]? =some z∧z.toNat=j
theorem grow {p:Pr} (hc:checkP p=0) {V:List (List Int)} {R:List Nat} {pw:Slt→List Int} {P Q:List Slt} (hR:Leq R p.M) (hP:∀s∈P,s∈slotsF p.g) (hV:∀s∈P,pw s∈V) (hfit:∀s∈P,fitL R s.2.2 (pw s)=true)
  (agree:∀s∈P,∀t∈P,∀(k k':Nat) (z:Int),s.2.2[k]? =some z→t.2.2[k']? =some z→(pw s).getD k 0=(pw t).getD k' 0) {G:List Int→Bool} (hG:∀f,Grown p.M pw P f→G f=true):∀(P' D:List Slt),D++P'=P→∀f,Grown p.M pw D f→1≤cntS p.M V G (P'++Q) f
 | [],D,hD,f,hf=>by
  rw[List.append_nil] at hD;subst hD;have:=hG f hf;cases Q with
  |nil=>simp only[List.nil_append,cntS];rw[if_pos this];omega
  |cons s ss=>simp only[List.nil_append,cntS];rw[if_pos this];omega
 |s::P',D,hD,f,hf=>by
  have hsP:s∈P:=by rw[←hD];exact List.mem_append_right _ List.mem_cons_self
  have hDP:∀t∈D,t∈P:=fun t ht=>by rw[←hD];exact List.mem_append_left _ ht
  have hci:=cells_in hc (hP s hsP);obtain⟨f1,f2⟩:=(fit_iff R s.2.2 (pw s)).1 (hfit s hsP);have hlen:=hf.len;obtain⟨g,hg⟩:∃g,wlayF p.M f s.2.2 (pw s) f=some g:=wlay_ok f1 fun k z hz=>by
   obtain⟨a,b,d⟩:=has_bit.1 (f2 k z hz);refine⟨has_bit.2 ⟨a,b,hR _ _ d⟩,fun h0=> ?_⟩;have hin:=(hci z (List.mem_of_getElem? hz)).2;rw[←hlen] at hin;rw[getD_eqd hin 0 (-1)] at h0⊢;obtain⟨t,ht,k2,z2,e1,e2⟩:=hf.only _ h0;have z20:=(cells_in hc (hP t (hDP t ht)) z2 (List.mem_of_getElem? e1)).1;have z0:=(hci z (List.mem_of_getElem? hz)).1;have ez:z2=z:=by omega
   subst ez;rw[hf.has t ht k2 z2 e1];exact agree t (hDP t ht) s hsP k2 k z2 e1 hz
  obtain⟨g1,g2,g3,g4,g5⟩:=laid_some hg (once_nodup (once_slot (checkP_zero hc).1 (hP s hsP))) (fun z hz=>by rw[hlen];exact(hci z hz).2);have gat:∀(k:Nat) (z:Int),s.2.2[k]? =some z→g.getD z.toNat (-1)=(pw s).getD k 0:=fun k z hz=>by
   have:(s.2.2.map fun c=>g.getD c.toNat (-1)).getD k 0=(pw s).getD k 0:=by rw[g4]
   rw[gE,List.getElem?_map,hz] at this;exact this
  have hg':Grown p.M pw (D++[s]) g:=by
   refine⟨by rw[g2,hlen],fun t ht k z hz=> ?_,fun j hj=> ?_⟩
   ·rcases List.mem_append.1 ht with ht|ht
    ·by_cases hm:z.toNat∈s.2.2.map Int.toNat
     ·obtain⟨z2,hz2,e⟩:=List.mem_map.1 hm;have z20:=(hci z2 hz2).1;have z0:=(cells_in hc (hP t (hDP t ht)) z (List.mem_of_getElem? hz)).1;have ez:z2=z:=by omega
      subst ez;obtain⟨k2,hk2,e2⟩:=List.mem_iff_getElem.1 hz2;have hk3:s.2.2[k2]? =some z2:=by rw[gQ hk2,e2]
      rw[gat k2 z2 hk3];exact agree s hsP t (hDP t ht) k2 k z2 hk3 hz
     ·rw[g3 _ hm];exact hf.has t ht k z hz
    ·rw[List.mem_singleton] at ht;subst ht;exact gat k z hz
   ·by_cases hm:j∈s.2.2.map Int.toNat
    ·obtain⟨z2,hz2,e⟩:=List.mem_map.1 hm;obtain⟨k2,hk2,e2⟩:=List.mem_iff_getElem.1 hz2;exact⟨s,List.mem_append_right _ List.mem_cons_self,k2,z2,by rw[gQ hk2,e2],e⟩
    ·rw[g3 _ hm] at hj;obtain⟨t,ht,r⟩:=hf.only j hj;exact⟨t,List.mem_append_left _ ht,r⟩
  have ih:=grow hc (Q:=Q) hR hP hV hfit agree hG P' (D++[s]) (by rw[←hD,List.append_assoc];rfl) g hg';rw[List.cons_append];simp only[cntS];have h1:=sum_mem (f:=fun w=>match wlayF p.M f s.2.2 w f with|some g=>cntS p.M V G (P'++Q) g|none=>0) (hV s hsP);simp only[hg] at h1;omega
end Go.Proofs.YtnakmganodkliaaDoorAm
