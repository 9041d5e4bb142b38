/- Refutations: Check of any problem and any nogoods, and what it leans on. (part 8) -/
import Derived.Test.YtnakmganodkliaaDoorPrg
set_option linter.unusedVariables false
set_option linter.unusedSimpArgs false
set_option maxRecDepth 100000
namespace Go.Proofs.YtnakmganodkliaaDoorAm
open Go
def sAt (A:List (Int×Int)) (c:Int):Int×Int:=A.getD c.toNat (-1,0)
theorem sAt_set {A:List (Int×Int)} {x y:Int} {v:Int×Int} (x0:0≤x) (y0:0≤y) (yl:y<A.length):sAt (A.set y.toNat v) x=if x=y then v else sAt A x:=by
 unfold sAt
 rw[List.getD_eq_getElem?_getD,List.getD_eq_getElem?_getD,List.getElem?_set]
 by_cases h:x=y
 ·subst h
  rw[if_pos rfl,if_pos rfl,if_pos (by omega)]
  rfl
 ·rw[if_neg (by omega),if_neg h]
theorem lay_no (s c:Int) (c0:0≤c):∀(cs:List Int) (k:Int) (A:List (Int×Int)),(∀x∈cs,0≤x∧x< (A.length:Int))→(∀x∈cs,x≠c)→sAt (layCells s k cs A) c=sAt A c
 | [],_,_,_,_=>rfl
 |x::cs,k,A,hr,hn=>by
  have h0:=hr x List.mem_cons_self
  have h1:=hn x List.mem_cons_self
  simp only[layCells]
  rw[lay_no s c c0 cs (k+1) _ (fun z hz=>by rw[List.length_set];exact hr z (List.mem_cons_of_mem _ hz)) (fun z hz=>hn z (List.mem_cons_of_mem _ hz)),sAt_set c0 h0.1 h0.2,if_neg (fun e=>h1 e.symm)]
theorem lay_yes (s c:Int) (c0:0≤c):∀(cs:List Int) (k:Int) (A:List (Int×Int)) (j:Nat),(∀x∈cs,0≤x∧x< (A.length:Int))→j<cs.length→cs.getD j 0=c→(∀j',j<j'→j'<cs.length→cs.getD j' 0≠c)→sAt (layCells s k cs A) c=(s,k+j)
 | [],_,_,_,_,hj,_,_=>by simp at hj
 |x::cs,k,A,0,hr,hj,he,hu=>by
  have h0:=hr x List.mem_cons_self
  have e:x=c:=he
  simp only[layCells]
  rw[lay_no s c c0 cs (k+1) _ (fun z hz=>by rw[List.length_set];exact hr z (List.mem_cons_of_mem _ hz)) (fun z hz=> ?_),sAt_set c0 h0.1 h0.2,if_pos e.symm]
  ·simp
  ·obtain⟨n,hn,rfl⟩:=List.mem_iff_getElem.1 hz
   have:=hu (n+1) (by omega) (by simp only[List.length_cons];omega)
   rw[List.getD_cons_succ,List.getD_eq_getElem?_getD,List.getElem?_eq_getElem hn] at this
   exact this
 |x::cs,k,A,j+1,hr,hj,he,hu=>by
  simp only[layCells]
  simp only[List.length_cons] at hj
  rw[lay_yes s c c0 cs (k+1) _ j (fun z hz=>by rw[List.length_set];exact hr z (List.mem_cons_of_mem _ hz)) (by omega) he (fun j' a b=>by
   have:=hu (j'+1) (by omega) (by simp only[List.length_cons];omega)
   exact this)]
  refine Prod.ext rfl ?_
  show k+1+(j:Int)=k+((j+1:Nat):Int)
  omega
def IsSeat (S:List (Int×Bool×List Int)) (d:Bool) (c:Int) (v:Int×Int):Prop:=(∀s k:Nat,Sits S d c s k→v=((s:Int),(k:Int)))∧((∀s k:Nat,¬Sits S d c s k)→v=(-1,0))
theorem isSeat_unique {S:List (Int×Bool×List Int)} {d:Bool} {c:Int} {v v':Int×Int} (h:IsSeat S d c v) (h':IsSeat S d c v'):v=v':=by
 by_cases hx:∃s k,Sits S d c s k
 ·obtain⟨s,k,hs⟩:=hx
  rw[h.1 s k hs,h'.1 s k hs]
 ·rw[h.2 (fun s k hs=>hx ⟨s,k,hs⟩),h'.2 (fun s k hs=>hx ⟨s,k,hs⟩)]
theorem sits_snoc {P:List (Int×Bool×List Int)} {x:Int×Bool×List Int} {d:Bool} {c:Int} {s k:Nat}:Sits (P++[x]) d c s k↔Sits P d c s k∨(s=P.length∧x.2.1=d∧k<x.2.2.length∧x.2.2.getD k 0=c):=by
 unfold Sits
 constructor
 ·rintro⟨z,hz,h⟩
  rcases Nat.lt_trichotomy s P.length with hl|hl|hl
  ·rw[List.getElem?_append_left hl] at hz
   exact .inl ⟨z,hz,h⟩
  ·subst hl
   rw[List.getElem?_append_right (Nat.le_refl _),Nat.sub_self] at hz
   simp only[List.getElem?_cons_zero,Option.some.injEq] at hz
   subst hz
   exact .inr ⟨rfl,h⟩
  ·rw[List.getElem?_eq_none (by simp;omega)] at hz
   cases hz
 ·rintro(⟨z,hz,h⟩|⟨rfl,h⟩)
  ·have hl:=(List.getElem?_eq_some_iff.1 hz).1
   exact⟨z,by rw[List.getElem?_append_left hl];exact hz,h⟩
  ·exact⟨x,by rw[List.getElem?_append_right (Nat.le_refl _),Nat.sub_self];rfl,h⟩
theorem seat_lay {P:List (Int×Bool×List Int)} {x:Int×Bool×List Int} {d:Bool} {c:Int} {A:List (Int×Int)} (c0:0≤c) (hr:∀z∈x.2.2,0≤z∧z< (A.length:Int)) (hd:x.2.1=d)
  (hu:∀s k s' k',Sits (P++[x]) d c s k→Sits (P++[x]) d c s' k'→s=s'∧k=k') (h:IsSeat P d c (sAt A c)):IsSeat (P++[x]) d c (sAt (layCells P.length 0 x.2.2 A) c):=by
 by_cases hx:∃k,k<x.2.2.length∧x.2.2.getD k 0=c
 ·obtain⟨k,hk,hg⟩:=hx
  have hs:Sits (P++[x]) d c P.length k:=sits_snoc.2 (.inr ⟨rfl,hd,hk,hg⟩)
  have e:=lay_yes P.length c c0 x.2.2 0 A k hr hk hg (fun j' a b hj=>by
   have:=(hu _ _ _ _ hs (sits_snoc.2 (.inr ⟨rfl,hd,b,hj⟩))).2
   omega)
  refine⟨fun s' k' h'=> ?_,fun hn=>absurd hs (hn _ _)⟩
  obtain⟨a,b⟩:=hu _ _ _ _ hs h'
  rw[e,←a,←b]
  simp
 ·have e:=lay_no P.length c c0 x.2.2 0 A hr (fun z hz hzc=>by
   obtain⟨n,hn,rfl⟩:=List.mem_iff_getElem.1 hz
   exact hx ⟨n,hn,by rw[List.getD_eq_getElem?_getD,List.getElem?_eq_getElem hn];exact hzc⟩)
  rw[e]
  refine⟨fun s k hs=> ?_,fun hn=>h.2 fun s k hs=>hn s k (sits_snoc.2 (.inl hs))⟩
  rcases sits_snoc.1 hs with hs|⟨_,_,hk,hg⟩
  ·exact h.1 s k hs
  ·exact absurd ⟨k,hk,hg⟩ hx
theorem seat_other {P:List (Int×Bool×List Int)} {x:Int×Bool×List Int} {d:Bool} {c:Int} {v:Int×Int} (hd:x.2.1≠d) (h:IsSeat P d c v):IsSeat (P++[x]) d c v:=by
 refine⟨fun s k hs=> ?_,fun hn=>h.2 fun s k hs=>hn s k (sits_snoc.2 (.inl hs))⟩
 rcases sits_snoc.1 hs with hs|⟨_,hd',_⟩
 ·exact h.1 s k hs
 ·exact absurd hd' hd
theorem sits_more {P Q:List (Int×Bool×List Int)} {d:Bool} {c:Int} {s k:Nat} (h:Sits P d c s k):Sits (P++Q) d c s k:=by
 obtain⟨z,hz,h⟩:=h
 exact⟨z,by rw[List.getElem?_append_left (List.getElem?_eq_some_iff.1 hz).1];exact hz,h⟩
theorem lay_all {c:Int} (c0:0≤c) (N:Nat):∀(ss P:List (Int×Bool×List Int)) (A E:List (Int×Int)),A.length=N→E.length=N→(∀x∈ss,∀z∈x.2.2,0≤z∧z< (N:Int))→
  (∀d s k s' k',Sits (P++ss) d c s k→Sits (P++ss) d c s' k'→s=s'∧k=k')→IsSeat P false c (sAt A c)→IsSeat P true c (sAt E c)→
  IsSeat (P++ss) false c (sAt (laySlots P.length ss A E).1 c)∧IsSeat (P++ss) true c (sAt (laySlots P.length ss A E).2 c)∧(laySlots P.length ss A E).1.length=N∧(laySlots P.length ss A E).2.length=N
 | [],P,A,E,la,le,_,_,h1,h2=>by
  simp only[laySlots,List.append_nil]
  exact⟨h1,h2,la,le⟩
 |x::ss,P,A,E,la,le,hr,hu,h1,h2=>by
  have hx:=hr x List.mem_cons_self
  have hu1:∀d s k s' k',Sits (P++[x]) d c s k→Sits (P++[x]) d c s' k'→s=s'∧k=k':=fun d s k s' k' a b=>hu d s k s' k' (by rw[List.append_cons];exact sits_more a) (by rw[List.append_cons];exact sits_more b)
  have el:((P++[x]).length:Int)=P.length+1:=by simp
  rw[List.append_cons] at hu⊢
  simp only[laySlots]
  rw[←el]
  split
  ·rename_i hd
   exact lay_all c0 N ss (P++[x]) A _ la (by rw[lay_len];exact le) (fun z hz=>hr z (List.mem_cons_of_mem _ hz)) hu (seat_other (by rw[hd];simp) h1) (seat_lay c0 (by rw[le];exact hx) hd (hu1 true) h2)
  ·rename_i hd
   exact lay_all c0 N ss (P++[x]) _ E (by rw[lay_len];exact la) le (fun z hz=>hr z (List.mem_cons_of_mem _ hz)) hu (seat_lay c0 (by rw[la];exact hx) (by simpa using hd) (hu1 false) h1) (seat_other (by simpa using hd) h2)
theorem slots_in {g:Gr} (hc:checkF g=0):∀x∈slotsF g,∀z∈x.2.2,0≤z∧z<g.h*g.w:=by
 intro x hx z hz
 have e:slotsF g=slotsFrom g (g.h*g.w).toNat 0 0:=if_pos hc
 rw[e] at hx
 have:=open_in ((slots_open _ _ _ x hx).2 z hz)
 omega
theorem seats_are {g:Gr} (hc:checkF g=0) {c:Int} (c0:0≤c):IsSeat (slotsF g) false c (sAt (seatsF g).1 c)∧IsSeat (slotsF g) true c (sAt (seatsF g).2 c)∧((seatsF g).1.length:Int)=g.h*g.w∧((seatsF g).2.length:Int)=g.h*g.w:=by
 have hw:=hw_in (chk0.1 hc).1 (chk0.1 hc).2.1
 have e:seatsF g=laySlots 0 (slotsF g) (List.replicate (g.h*g.w).toNat (-1,0)) (List.replicate (g.h*g.w).toNat (-1,0)):=if_pos hc
 have hrep:sAt (List.replicate (g.h*g.w).toNat (-1,0)) c=(-1,0):=by
  unfold sAt
  rw[List.getD_eq_getElem?_getD,List.getElem?_replicate]
  split<;>rfl
 have none:∀d,IsSeat [] d c (sAt (List.replicate (g.h*g.w).toNat (-1,0)) c):=fun d=>⟨fun s k h=>by obtain⟨x,hx,_⟩:=h;simp at hx,fun _=>hrep⟩
 have h:=lay_all c0 (g.h*g.w).toNat (slotsF g) [] _ _ List.length_replicate List.length_replicate (fun x hx z hz=>by have:=slots_in hc x hx z hz;omega) (fun d s k s' k' a b=>sits_unique hc a b) (none false) (none true)
 rw[e]
 simp only[List.nil_append,List.length_nil] at h
 obtain⟨a,b,p,q⟩:=h
 have p':(laySlots 0 (slotsF g) (List.replicate (g.h*g.w).toNat (-1,0)) (List.replicate (g.h*g.w).toNat (-1,0))).1.length=(g.h*g.w).toNat:=p
 have q':(laySlots 0 (slotsF g) (List.replicate (g.h*g.w).toNat (-1,0)) (List.replicate (g.h*g.w).toNat (-1,0))).2.length=(g.h*g.w).toNat:=q
 exact⟨a,b,by omega,by omega⟩
end Go.Proofs.YtnakmganodkliaaDoorAm
set_option maxRecDepth 100000
namespace Go.Proofs.YtnakmganodkliaaDoorAm
open Go
structure Pr where
 g:Gr
 W:List (List Int)
 M:List Nat
def Nt (l:List Int):List Nat:=l.map Int.toNat
theorem Nt_Mi:∀(l:List Nat),Nt (Mi l)=l
 | []=>rfl
 |a::l=>by
  show((a:Int)).toNat::Nt (Mi l)=_
  rw[Nt_Mi l,Int.toNat_natCast]
theorem Mi_len (l:List Nat):(Mi l).length=l.length:=by simp[Mi]
theorem Mi_getD (l:List Nat) (i:Nat):(Mi l).getD i 0=((l.getD i 0:Nat):Int):=by
 unfold Mi
 rw[List.getD_eq_getElem?_getD,List.getD_eq_getElem?_getD,List.getElem?_map]
 cases l[i]? <;>rfl
theorem Mi_set (l:List Nat) (i n:Nat):(Mi l).set i (n:Int)=Mi (l.set i n):=by
 unfold Mi
 rw[List.map_set]
theorem Mi_rep (n:Nat):List.replicate n (0:Int)=Mi (List.replicate n 0):=by simp[Mi]
abbrev WT:Ty:= .sl (.int .i64)
abbrev kW:NK:=⟨27,.sl (.int .i64),0,3,.int .i64⟩
abbrev slW (W:List (List Int)):D:= .sl false false (.sl (.int .i64)) W
abbrev slU (M:List Nat):D:= .sl false false (.int .u64) (Mi M)
abbrev slS (S:List Slt):D:= .sl false false SlT S
abbrev Pr.d (p:Pr):D:= .agg [.v (.int .i64 p.g.h),.v (.int .i64 p.g.w),.sl false false .bool p.g.B,.sl false false .bool p.g.R,.sl false false .bool p.g.L,slW p.W,slU p.M]
def oddB (c:Int):Bool:=decide (c<0)||decide (c>63)
def findI (f:Int→Bool):Int→List Int→Int
 |_,[]=> -1
 |k,x::xs=>if f x then k else findI f (k+1) xs
def badW (w:List Int):Bool:=decide ((w.length:Int)<1)||decide ((w.length:Int)>32)||w.any oddB
def checkP (p:Pr):Int:=if checkF p.g=0 then if(p.W.length:Int)>1000 then 111 else if p.W.any badW then 35 else if(p.M.length:Int)=p.g.h*p.g.w then 0 else 120 else checkF p.g
def wordsF (W:List (List Int)) (S:List Slt) (m:List Nat):List (List Int):=S.map fun s=>idxF (fitL m s.2.2) 0 W
def mayF (W:List (List Int)) (S:List Slt):List (List Int):=S.map fun s=>idxF (fun w=>w.length==s.2.2.length) 0 W
def okF (S:List Slt) (m:List Nat) (ws:List (List Int)):Bool:=ws.all (fun w=>decide ((w.length:Int)>0))&&S.all fun s=>s.2.2.all fun c=>m.getD c.toNat 0 !=0
def seatCells (M:List Nat):List Int→List Nat→List Nat
 | [],m=>m
 |c::cs,m=>seatCells M cs (m.set c.toNat (M.getD c.toNat 0))
def seatSlots (M:List Nat):List Slt→List Nat→List Nat
 | [],m=>m
 |s::ss,m=>seatSlots M ss (seatCells M s.2.2 m)
def m0F (p:Pr):List Nat:=seatSlots p.M (slotsF p.g) (List.replicate p.M.length 0)
def narM (p:Pr):List Nat:=if checkP p=0 then gfpF p.W (slotsF p.g) (m0F p) else []
def narW (p:Pr):List (List Int):=if checkP p=0 then wordsF p.W (slotsF p.g) (narM p) else []
def narO (p:Pr):Bool:=if checkP p=0 then okF (slotsF p.g) (narM p) (narW p) else false
def slotAt (S:List Slt) (s:Int):Slt:=S.getD s.toNat (0,false,[])
def wordAt (W:List (List Int)) (i:Int):List Int:=W.getD i.toNat []
def orW:Nat→List Int→List Nat→List Nat
 |_,[],th=>th
 |k,c::w,th=>orW (k+1) w (th.set k (th.getD k 0|||bitN c))
def keepI (W:List (List Int)) (m:List Nat) (cs:List Int) (l:List Int):List Int:=l.filter fun i=>fitL m cs (wordAt W i)
def orI (W:List (List Int)) (m:List Nat) (cs:List Int) (th:List Nat) (l:List Int):List Nat:=l.foldl (fun th i=>if fitL m cs (wordAt W i) then orW 0 (wordAt W i) th else th) th
def thereI (W:List (List Int)) (m:List Nat) (cs:List Int) (l:List Int):List Nat:=orI W m cs (List.replicate cs.length 0) l
def lookC (W:List (List Int)) (m:List Nat) (cs l:List Int):List Nat:=meetL (fun k=>(thereI W m cs l).getD k 0) 0 cs m
def lostL (th:List Nat):Nat→List Int→List Nat→List Int
 |_,[],_=> []
 |k,c::cs,m=>if m.getD c.toNat 0&&&th.getD k 0=m.getD c.toNat 0 then lostL th (k+1) cs m else c::lostL th (k+1) cs (m.set c.toNat (m.getD c.toNat 0&&&th.getD k 0))
def lostC (W:List (List Int)) (m:List Nat) (cs l:List Int):List Int:=lostL (thereI W m cs l) 0 cs m
def putF (wt:List Bool) (td:List Int) (s:Int):List Bool×List Int:=if 0≤s∧wt.getD s.toNat false=false then(wt.set s.toNat true,td++[s]) else(wt,td)
theorem getD_in {α:Type} {l:List α} {k:Nat} {d:α} (h:k<l.length):l.getD k d∈l:=by
 rw[List.getD_eq_getElem?_getD,List.getElem?_eq_getElem h]
 exact List.getElem_mem h
def datC (rd:Nat→Option Row) (t:Ty) (id:Nat):Option (List t.El):=match rd id with
 |some (.data _ t' xs)=>if h:t'=t then some (h▸xs) else none
 |_=>none
def nestC (rd:Nat→Option Row) (k:NK) (id:Nat):Option (List k.t.El):=match rd id with
 |some (.nest k' xs none)=>if h:k'=k then some (h▸xs) else none
 |_=>none
def withP (rd:Nat→Option Row) (h w:Int) (b r l ws ms:D) (k:Pr→List Nat→Option Ann):Option Ann:=
 withW rd h w b r l fun g ls=>match slC rd WT [ws],slC rd (.int .u64) [ms] with
  |some W,some M=>k ⟨g,W,Nt M⟩ (ls++refsDs [ws,ms])
  |_,_=>none
def flag (ts:List Nat) (s:Sp):Sp:=fun f args rd=>if ts.contains f then some {f:=0,args:=[],val:= .top,nk:=some kW} else s f args rd
abbrev envD (W:List (List Int)) (S:List Slt) (m:List Nat):D:= .rptr [.rptr [slW W,slS S,slU m,.top]]
def narVal (m:List Nat) (ws:List (List Int)) (ok:Bool) (e:Int):D:= .tup [.agg [.own 0 0 m.length none,.own 1 0 ws.length none,.v (.bool ok)],.v (.int .i64 e)]
def spNa:Sp:=fun f args rd=>match f,args with
 |120,[.v (.int _ c)]=>some {f:=120,args:=[.v (.int .i64 c)],val:= .v (.bool (oddB c))}
 |138,[l,.fn 120 []]=>match slC rd (.int .i64) [l] with
  |some L=>some {f:=138,args:=[slI L,.fn 120 []],val:= .v (.int .i64 (findI oddB 0 L)),lent:=refsDs [l]}
  |none=>none
 |107,[l,.fn 120 []]=>match slC rd (.int .i64) [l] with
  |some L=>some {f:=107,args:=[slI L,.fn 120 []],val:= .v (.bool (L.any oddB)),lent:=refsDs [l]}
  |none=>none
 |89,[.agg [.v (.int _ h),.v (.int _ w),b,r,l,ws,ms]]=>withP rd h w b r l ws ms fun p ls=>some {f:=89,args:=[p.d],val:= .v (.int .i64 (checkP p)),lent:=ls}
 |60,[.agg [.v (.int _ h),.v (.int _ w),b,r,l,ws,ms]]=>withP rd h w b r l ws ms fun p ls=>some {f:=60,args:=[p.d],val:= .v (.int .i64 (checkP p)),lent:=ls}
 |156,[c,.agg [.v (.int _ n),.v (.bool d),cs],w]=>match slC rd (.int .u64) [c],slC rd (.int .i64) [cs],slC rd (.int .i64) [w] with
  |some C,some K,some V=>some {f:=156,args:=[slU (Nt C),.agg [.v (.int .i64 n),.v (.bool d),slI K],slI V],val:= .v (.bool (fitL (Nt C) K V)),lent:=refsDs [c,cs,w]}
  |_,_,_=>none
 |95,[a,b]=>match slC rd (.int .u64) [a],slC rd (.int .u64) [b] with
  |some A,some B=>some {f:=95,args:=[.sl false false (.int .u64) A,.sl false false (.int .u64) B],val:= .v (.bool (decide (A=B))),lent:=refsDs [a,b]}
  |_,_=>none
 |36,[.agg [.v (.int _ h),.v (.int _ w),b,r,l]]=>withW rd h w b r l fun g ls=>some {f:=36,args:=[g.d],val:=slS (slotsF g),lent:=ls}
 |38,[.agg [.v (.int _ h),.v (.int _ w),b,r,l]]=>withW rd h w b r l fun g ls=>some {f:=38,args:=[g.d],val:=slS (slotsF g),lent:=ls}
 |146,[.agg [.v (.int _ h),.v (.int _ w),b,r,l,ws,ms],s,c]=>withP rd h w b r l ws ms fun p ls=>match slC rd SlT [s],slC rd (.int .u64) [c] with
  |some S,some C=>some {f:=146,args:=[p.d,slS S,slU (Nt C)],val:= .tup [.own 0 0 (onceF p.W S (Nt C)).length none,.own 1 0 (wordsF p.W S (Nt C)).length none],allocs:=[.data 22 (.int .u64) (Mi (onceF p.W S (Nt C))),.nest kW (wordsF p.W S (Nt C)) none],lent:=ls++refsDs [s,c]}
  |_,_=>none
 |125,[.agg [.v (.int _ h),.v (.int _ w),b,r,l,ws,ms]]=>withP rd h w b r l ws ms fun p ls=>some {f:=125,args:=[p.d],val:=narVal (narM p) (narW p) (narO p) (checkP p),allocs:=[.data 22 (.int .u64) (Mi (narM p)),.nest kW (narW p) none],lent:=ls}
 |123,[.agg [.v (.int _ h),.v (.int _ w),b,r,l,ws,ms]]=>withP rd h w b r l ws ms fun p ls=>some {f:=123,args:=[p.d],val:=narVal (narM p) (narW p) (narO p) (checkP p),allocs:=[.data 22 (.int .u64) (Mi (narM p)),.nest kW (narW p) none],lent:=ls}
 |143,[.agg [.v (.int _ h),.v (.int _ w),b,r,l,ws,ms]]=>withP rd h w b r l ws ms fun p ls=>some {f:=143,args:=[p.d],val:= .ptr 0 0 0,allocs:=[.box 176 [slW p.W,slS (slotsF p.g),.own 1 0 p.M.length (some p.M.length),.own 2 0 (mayF p.W (slotsF p.g)).length none],.data 22 (.int .u64) (Mi (m0F p)),.nest kW (mayF p.W (slotsF p.g)) none],lent:=ls}
 |144,[.v (.int _ s),.ptr a _ _,.ptr c _ _]=>match rd a,rd c with
  |some (.box _ [.own i1 _ n _]),some (.box _ [.own i2 _ k _])=>match datC rd .bool i1,datC rd (.int .i64) i2 with
   |some wt,some td=>some {f:=144,args:=[.v (.int .i64 s),.ptr 0 0 0,.ptr 2 0 0],pre:=[.box 44 [.own 1 0 n (some n)],.data 4 .bool wt,.box 27 [.own 3 0 k none],.data 3 (.int .i64) td],val:= .tup [],post:=[some (.box 44 [.own 1 0 n (some n)]),some (.data 4 .bool (putF wt td s).1),some (.box 27 [.own 4 0 (putF wt td s).2.length none]),none],allocs:=[.data 3 (.int .i64) (putF wt td s).2],cap:=[a,i1,c,i2]}
   |_,_=>none
  |_,_=>none
 |145,[.ptr tb _ _,.v (.int _ s)]=>match rd tb with
  |some (.box _ [w,l,.own c0 _ n _,.own m0 _ k _])=>match slC rd WT [w],slC rd SlT [l],datC rd (.int .u64) c0,nestC rd kW m0 with
   |some W,some S,some C,some ms=>some {f:=145,args:=[.ptr 0 0 0,.v (.int .i64 s)],pre:=[.box 176 [slW W,slS S,.own 1 0 n (some n),.own 2 0 k none],.data 22 (.int .u64) (Mi (Nt C)),.nest kW ms none],val:= .own 3 0 (lostC W (Nt C) (slotAt S s).2.2 (List.getD ms s.toNat [])).length none,post:=[some (.box 176 [slW W,slS S,.own 1 0 n (some n),.own 2 0 k none]),some (.data 22 (.int .u64) (Mi (lookC W (Nt C) (slotAt S s).2.2 (List.getD ms s.toNat [])))),some (.nest kW (List.set ms s.toNat (keepI W (Nt C) (slotAt S s).2.2 (List.getD ms s.toNat []))) none)],allocs:=[.data 3 (.int .i64) (lostC W (Nt C) (slotAt S s).2.2 (List.getD ms s.toNat []))],cap:=[tb,c0,m0]}
   |_,_,_,_=>none
  |_=>none
 |155,[.v (.int _ i),.rptr [.rptr [w,l,c,_]],.rptr [cs],.ptr b6 _ _]=>match slC rd WT [w],slC rd SlT [l],slC rd (.int .u64) [c],slC rd (.int .i64) [cs],rd b6 with
  |some W,some S,some C,some K,some (.box _ [.own t0 _ n _])=>match datC rd (.int .u64) t0 with
   |some th=>some {f:=155,args:=[.v (.int .i64 i),envD W S (Nt C),.rptr [slI K],.ptr 0 0 0],pre:=[.box 33 [.own 1 0 n (some n)],.data 22 (.int .u64) (Mi (Nt th))],val:= .v (.bool (!fitL (Nt C) K (wordAt W i))),post:=[some (.box 33 [.own 1 0 n (some n)]),some (.data 22 (.int .u64) (Mi (orI W (Nt C) K (Nt th) [i])))],cap:=[b6,t0]}
   |none=>none
  |_,_,_,_,_=>none
 |138,[s,.fn 155 [.rptr [.rptr [w,l,c,_]],.rptr [cs],.ptr b6 _ _]]=>match slC rd WT [w],slC rd SlT [l],slC rd (.int .u64) [c],slC rd (.int .i64) [cs],rd b6 with
  |some W,some S,some C,some K,some (.box _ [.own t0 _ n _])=>match datC rd (.int .u64) t0,slC rd (.int .i64) [s] with
   |some th,some L=>some {f:=138,args:=[slI L,.fn 155 [envD W S (Nt C),.rptr [slI K],.ptr 0 0 0]],pre:=[.box 33 [.own 1 0 n (some n)],.data 22 (.int .u64) (Mi (Nt th))],val:= .v (.int .i64 (findI (fun i=> !fitL (Nt C) K (wordAt W i)) 0 L)),post:=[some (.box 33 [.own 1 0 n (some n)]),some (.data 22 (.int .u64) (Mi (orI W (Nt C) K (Nt th) (L.takeWhile fun i=>fitL (Nt C) K (wordAt W i)))))],cap:=[b6,t0],lent:=refsDs [s]}
   |_,_=>none
  |_,_,_,_,_=>none
 |154,[.own r _ n0 _,.fn 155 [.ptr b2 _ _,.ptr b5 _ _,.ptr b6 _ _]]=>match rd b2,rd b5,rd b6 with
  |some (.box _ [.ptr tb _ _]),some (.box _ [cs]),some (.box _ [.own t0 _ n _])=>match rd tb with
   |some (.box _ [w,l,.own c0 _ _ _,_])=>match slC rd WT [w],slC rd SlT [l],datC rd (.int .u64) c0,slC rd (.int .i64) [cs],datC rd (.int .u64) t0,datC rd (.int .i64) r with
    |some W,some S,some C,some K,some th,some L=>some {f:=154,args:=[.own 0 0 n0 none,.fn 155 [envD W S (Nt C),.rptr [slI K],.ptr 1 0 0]],pre:=[.data 3 (.int .i64) L,.box 33 [.own 2 0 n (some n)],.data 22 (.int .u64) (Mi (Nt th))],val:= .own 0 0 (keepI W (Nt C) K L).length none,post:=[some (.data 3 (.int .i64) (keepI W (Nt C) K L++List.replicate (L.length-(keepI W (Nt C) K L).length) 0)),some (.box 33 [.own 2 0 n (some n)]),some (.data 22 (.int .u64) (Mi (orI W (Nt C) K (Nt th) L)))],cap:=[r,b6,t0],lent:=b2::tb::c0::b5::refsDs [w,l,cs]}
    |_,_,_,_,_,_=>none
   |_=>none
  |_,_,_=>none
 |f,args=>spNm f args rd
noncomputable def n103:Code:=(Tryd.f120.body).getD .skip
noncomputable def n128:Code:=(Tryd.f138.body).getD .skip
noncomputable def n104:Code:=(Tryd.f107.body).getD .skip
noncomputable def n62:Code:=(Tryd.f89.body).getD .skip
noncomputable def n63:Code:=(Tryd.f60.body).getD .skip
noncomputable def n126:Code:=(Tryd.f156.body).getD .skip
noncomputable def n102:Code:=(Tryd.f95.body).getD .skip
noncomputable def n101:Code:=(Tryd.f146.body).getD .skip
noncomputable def n60:Code:=(Tryd.f125.body).getD .skip
noncomputable def n59:Code:=(Tryd.f123.body).getD .skip
noncomputable def n97:Code:=(Tryd.f143.body).getD .skip
noncomputable def n98:Code:=(Tryd.f144.body).getD .skip
noncomputable def n99:Code:=(Tryd.f145.body).getD .skip
noncomputable def n124:Code:=(Tryd.f155.body).getD .skip
noncomputable def n123:Code:=(Tryd.f154.body).getD .skip
noncomputable def n58:Code:=(Tryd.f53.body).getD .skip
noncomputable def n64:Code:=(Tryd.f57.body).getD .skip
end Go.Proofs.YtnakmganodkliaaDoorAm
set_option maxRecDepth 100000
namespace Go.Proofs.YtnakmganodkliaaDoorAm
open Go
theorem d103 (c:Int):Con Tryd.prog 120 [] [.v (.int .i64 c)] ((.v (.bool (oddB c)))) [] []:=by
 refine con_vc (how:=[none]) (c:=n103) (K:=(KK n103)) spNa (fun _=> []) (fun _=> []) 400 (.fork .stop .stop) (V:=fun G R=>(decide (c< (0:Int))=true→R (D.v (Value.bool true),[],[]))∧(decide (c< (0:Int))=false→R (D.v (Value.bool (decide (c>(63:Int)))),[],[]))) hmG Tryd.func120 (by kernel_rfl) (by kernel_rfl) (fun G R=>by kernel_rfl) ?_
 try dsimp only
 unfold oddB
 simp (disch:=omega) only[oo,oop,ne_eq,Ty.dflt,reduceCtorEq]
 repeat' (first|with_reducible refine And.intro ?_ ?_|intro _)
 all_goals first|rfl|omega|(simp_all;done)|(simp_all;omega)|skip
def vq14 (L:List Int) (k:Int) (G:Nat→St→Prop) (R:D×List (Option Row)×List Row→Prop):Prop:=let yy0:=(L.getD k.toNat (Ty.int .i64).dflt);(decide (k< (↑L.length:Int))=true→(0:Int)≤k∧k< (↑L.length:Int)∧Con Tryd.prog 120 [] [D.v (Value.int .i64 yy0)] (D.v (Value.bool (oddB yy0))) [] []∧Value.int .i64 yy0=Value.int .i64 yy0∧(oddB yy0=true→R (D.v (Value.int .i64 k),[],[]))∧(oddB yy0=false→SameK (KK n128 0) (KK n128 0)∧G 0 (stOf 19 [0,1,7,8] [D.sl false false (Ty.int .i64) L,D.fn 120 [],D.v (Value.int .i64 (↑L.length:Int)),D.v (Value.int .i64 (IntKind.i64.wrap (k+(1:Int))))] [])))∧(decide (k< (↑L.length:Int))=false→R (D.v (Value.int .i64 (-1:Int)),[],[]))
theorem e128 (L:List Int) (hL:(L.length:Int)≤9223372036854775807) (z:Nat):∀(k:Int),0≤k→k+z=L.length→∀r,r=findI oddB k (L.drop k.toNat)→GetsK Tryd.prog Tryd.f138.results.toList [none] (KK n128) 0 (.v (.int .i64 r),[],[]) 0 (stOf 19 [0,1,7,8] [slI L,.fn 120 [],.v (.int .i64 L.length),.v (.int .i64 k)] []):=by
 induction z with
 |zero=>
  intro k k0 hk r hr
  rw[List.drop_eq_nil_of_le (by omega)] at hr
  have hr:r= -1:=hr
  rw[hr]
  refine gets_vc spNa (fun _=> [0,1,7,8]) (fun _=> []) 400 (.fork (.fork .stop (.hd 0)) .stop) (V:=vq14 L k) hmG (fun G R=>by kernel_rfl) ?_
  unfold vq14
  try dsimp only
  simp (disch:=omega) only[oo,oop,ne_eq,Ty.dflt,reduceCtorEq]
  repeat' (first|with_reducible refine And.intro ?_ ?_|intro _)
  all_goals first|rfl|omega|assumption|trivial|(exfalso;simp_all;done)|(exfalso;omega)|skip
 |succ z ih=>
  intro k k0 hk r hr
  have hd:=drop_at (xs:=L) (i:=k) (0:Int) k0 (by omega)
  rw[hd] at hr
  simp only[findI] at hr
  have c:=d103 (L.getD k.toNat 0)
  have hk1:IntKind.i64.wrap (k+1)=k+1:=wrG (by omega) (by omega)
  have hx:=ih (k+1) (by omega) (by omega)
  refine gets_vc spNa (fun _=> [0,1,7,8]) (fun _=> []) 400 (.fork (.fork .stop (.hd 0)) .stop) (V:=vq14 L k) hmG (fun G R=>by kernel_rfl) ?_
  unfold vq14
  try dsimp only
  simp only[Ty.dflt,hk1]
  cases ho:oddB (L.getD k.toNat 0)<;>rw[ho] at c hr<;>simp only[if_true,Bool.false_eq_true,if_false] at hr<;>subst hr
  all_goals (first|(have hx:=hx _ rfl)|skip)
  all_goals simp (disch:=omega) only[oo,oop,ne_eq,Ty.dflt,reduceCtorEq];repeat' (first|with_reducible refine And.intro ?_ ?_|intro _)
  all_goals first|rfl|omega|assumption|trivial|(exfalso;simp_all;done)|(exfalso;omega)|skip
theorem d128 (L:List Int) (hL:(L.length:Int)≤9223372036854775807):Con Tryd.prog 138 [] [slI L,.fn 120 []] ((.v (.int .i64 (findI oddB 0 L)))) [] []:=by
 refine con_vc (how:=[none]) (c:=n128) (K:=(KK n128)) spNa (fun _=> [0,1,7,8]) (fun _=> []) 400 (.hd 0) (V:=fun G R=>SameK (KK n128 0) (KK n128 0)∧G 0 (stOf 19 [0,1,7,8] [D.sl false false (Ty.int .i64) L,D.fn 120 [],D.v (Value.int .i64 (↑L.length:Int)),D.v (Value.int .i64 (0:Int))] [])) hmG Tryd.func138 (by kernel_rfl) (by kernel_rfl) (fun G R=>by kernel_rfl) ?_
 try dsimp only
 have hx:=e128 L hL L.length 0 (by omega) (by omega) _ rfl
 simp only[show(0:Int).toNat=0 by rfl,List.drop_zero] at hx
 simp (disch:=omega) only[oo,oop,ne_eq,Ty.dflt,reduceCtorEq]
 repeat' (first|with_reducible refine And.intro ?_ ?_|intro _)
 all_goals first|rfl|omega|assumption|trivial|(exfalso;simp_all;done)|(exfalso;omega)|skip
theorem find_any (f:Int→Bool):∀(L:List Int) (k:Int),0≤k→decide (findI f k L≥0)=L.any f
 | [],k,_=>by simp[findI]
 |x::L,k,h=>by
  simp only[findI,List.any_cons]
  rcases Bool.eq_false_or_eq_true (f x) with e|e
  ·simp only[e,if_true,Bool.true_or]
   exact decide_eq_true h
  ·simp only[e,Bool.false_eq_true,if_false,Bool.false_or]
   exact find_any f L (k+1) (by omega)
theorem d104 (L:List Int) (hL:(L.length:Int)≤9223372036854775807):Con Tryd.prog 107 [] [slI L,.fn 120 []] ((.v (.bool (L.any oddB)))) [] []:=by
 refine con_vc (how:=[none]) (c:=n104) (K:=(KK n104)) spNa (fun _=> []) (fun _=> []) 400 .stop (V:=fun G R=>Con Tryd.prog 138 [] [D.sl false false (Ty.int .i64) L,D.fn 120 []] (D.v (Value.int .i64 (findI oddB (0:Int) L))) [] []∧L=L∧R (D.v (Value.bool (decide (findI oddB (0:Int) L≥(0:Int)))),[],[])) hmG Tryd.func107 (by kernel_rfl) (by kernel_rfl) (fun G R=>by kernel_rfl) ?_
 try dsimp only
 have c:=d128 L hL
 have e:=find_any oddB L 0 (by omega)
 rw[←e]
 simp (disch:=omega) only[oo,oop,ne_eq,Ty.dflt,reduceCtorEq]
 repeat' (first|with_reducible refine And.intro ?_ ?_|intro _)
 all_goals first|rfl|omega|assumption|trivial|(exfalso;simp_all;done)|(exfalso;omega)|skip
theorem size1 {g:Gr} (hc:checkF g=0):(g.B.length:Int)=g.h*g.w:=(size3 (chk0.1 hc).2.2.1).1
def vq15 (g:Gr) (W:List (List Int)) (M:List Nat) (k:Int) (G:Nat→St→Prop) (R:D×List (Option Row)×List Row→Prop):Prop:=let yy0:=(W.getD k.toNat (Ty.int .i64).sl.dflt);let yy1:=(↑(List.length yy0):Int);let yy2:=(Ty.int .i64);(decide (k< (↑W.length:Int))=true→(0:Int)≤k∧k< (↑W.length:Int)∧(decide (yy1< (1:Int))=true→true=true∧true=true∧R (D.v (Value.int .i64 (35:Int)),[],[]))∧(decide (yy1< (1:Int))=false→(decide (yy1>(32:Int))=true→true=true∧R (D.v (Value.int .i64 (35:Int)),[],[]))∧(decide (yy1>(32:Int))=false→Con Tryd.prog 107 [] [D.sl false false yy2 yy0,D.fn 120 []] (D.v (Value.bool (List.any yy0 oddB))) [] []∧W.getD k.toNat yy2.sl.dflt=W.getD k.toNat yy2.sl.dflt∧(List.any yy0 oddB=true→R (D.v (Value.int .i64 (35:Int)),[],[]))∧(List.any yy0 oddB=false→SameK (KK n62 0) (KK n62 0)∧G 0 (stOf 46 [1,18,19,20] [D.ptr 0 0 0,D.sl false false yy2.sl W,D.v (Value.int .i64 (↑W.length:Int)),D.v (Value.int .i64 (IntKind.i64.wrap (k+(1:Int))))] [Slot.live (Row.box 73 [D.v (Value.int .i64 g.h),D.v (Value.int .i64 g.w),D.sl false false Ty.bool g.B,D.sl false false Ty.bool g.R,D.sl false false Ty.bool g.L,D.sl false false yy2.sl W,D.sl false false (Ty.int .u64) (Mi M)])])))))∧(decide (k< (↑W.length:Int))=false→(((↑(Mi M).length:Int) !=(↑g.B.length:Int))=true→R (D.v (Value.int .i64 (120:Int)),[],[]))∧(((↑(Mi M).length:Int) !=(↑g.B.length:Int))=false→R (D.v (Value.int .i64 (0:Int)),[],[])))
theorem e62 (g:Gr) (W:List (List Int)) (M:List Nat) (hc:checkF g=0) (hW:(W.length:Int)≤1000) (z:Nat):∀(k:Int),0≤k→k+z=W.length→∀r,r=(if(W.drop k.toNat).any badW then 35 else if(M.length:Int)=g.h*g.w then 0 else 120)→GetsK Tryd.prog Tryd.f89.results.toList [none] (KK n62) 0 (.v (.int .i64 r),[],[]) 0 (stOf 46 [1,18,19,20] [.ptr 0 0 0,slW W,.v (.int .i64 W.length),.v (.int .i64 k)] [.live (.box 73 [.v (.int .i64 g.h),.v (.int .i64 g.w),.sl false false .bool g.B,.sl false false .bool g.R,.sl false false .bool g.L,slW W,slU M])]):=by
 have sz:=size1 hc
 induction z with
 |zero=>
  intro k k0 hk r hr
  rw[List.drop_eq_nil_of_le (by omega)] at hr
  simp only[List.any_nil,Bool.false_eq_true,if_false] at hr
  rw[hr,←sz]
  refine gets_vc spNa (fun _=> [1,18,19,20]) (fun _=> []) 400 (.fork (.fork (.t (.t .stop)) (.fork (.t .stop) (.fork .stop (.hd 0)))) (.fork .stop .stop)) (V:=vq15 g W M k) hmG (fun G R=>by kernel_rfl) ?_
  unfold vq15
  try dsimp only
  simp only[Mi_len]
  simp (disch:=omega) only[oo,oop,ne_eq,Ty.dflt,reduceCtorEq]
  repeat' (first|with_reducible refine And.intro ?_ ?_|intro _)
  all_goals first|rfl|omega|assumption|trivial|(simp_all;done)|(rw[if_neg (by omega)])|(rw[if_pos (by omega)])|(exfalso;simp_all;done)|(exfalso;omega)|skip
 |succ z ih=>
  intro k k0 hk r hr
  have hd:=drop_at (xs:=W) (i:=k) ([]:List Int) k0 (by omega)
  rw[hd] at hr
  simp only[List.any_cons] at hr
  have hk1:IntKind.i64.wrap (k+1)=k+1:=wrG (by omega) (by omega)
  have hx:=ih (k+1) (by omega) (by omega) _ rfl
  refine gets_vc spNa (fun _=> [1,18,19,20]) (fun _=> []) 400 (.fork (.fork (.t (.t .stop)) (.fork (.t .stop) (.fork .stop (.hd 0)))) (.fork .stop .stop)) (V:=vq15 g W M k) hmG (fun G R=>by kernel_rfl) ?_
  unfold vq15
  try dsimp only
  simp only[Ty.dflt,hk1]
  obtain⟨w,hw⟩:∃w,W.getD k.toNat []=w:=⟨_,rfl⟩
  simp only[hw] at hr⊢
  by_cases h1:(w.length:Int)<1
  ·have:badW w=true:=by unfold badW;rw[decide_eq_true h1];rfl
   rw[this] at hr
   simp only[Bool.true_or,if_true] at hr
   rw[hr]
   simp (disch:=omega) only[oo,oop,ne_eq,Ty.dflt,reduceCtorEq]
   repeat' (first|with_reducible refine And.intro ?_ ?_|intro _)
   all_goals first|rfl|omega|assumption|trivial|exact c1|(exfalso;simp_all;done)|(exfalso;omega)|skip
  ·by_cases h2:(w.length:Int)>32
   ·have:badW w=true:=by unfold badW;rw[decide_eq_true h2];simp
    rw[this] at hr
    simp only[Bool.true_or,if_true] at hr
    rw[hr]
    simp (disch:=omega) only[oo,oop,ne_eq,Ty.dflt,reduceCtorEq]
    repeat' (first|with_reducible refine And.intro ?_ ?_|intro _)
    all_goals first|rfl|omega|assumption|trivial|exact c1|(exfalso;simp_all;done)|(exfalso;omega)|skip
   ·have c1:=d104 w (by omega)
    have:badW w=w.any oddB:=by unfold badW;rw[decide_eq_false h1,decide_eq_false h2];rfl
    rw[this] at hr
    cases ho:w.any oddB<;>rw[ho] at c1 hr<;>simp only[Bool.true_or,Bool.false_or,if_true] at hr<;>subst hr
    all_goals simp (disch:=omega) only[oo,oop,ne_eq,Ty.dflt,reduceCtorEq];repeat' (first|with_reducible refine And.intro ?_ ?_|intro _)
    all_goals first|rfl|omega|assumption|trivial|exact c1|(exfalso;simp_all;done)|(exfalso;omega)|skip
theorem d62 (g:Gr) (W:List (List Int)) (M:List Nat):Con Tryd.prog 89 [] [.agg [.v (.int .i64 g.h),.v (.int .i64 g.w),.sl false false .bool g.B,.sl false false .bool g.R,.sl false false .bool g.L,slW W,slU M]] ((.v (.int .i64 (checkP ⟨g,W,M⟩)))) [] []:=by
 refine con_vc (how:=[none]) (c:=n62) (K:=(KK n62)) spNa (fun _=> [1,18,19,20]) (fun _=> []) 400 (.fork .stop (.fork .stop (.hd 0))) (V:=fun G R=>Con Tryd.prog 44 [] [D.agg [D.v (Value.int .i64 g.h),D.v (Value.int .i64 g.w),D.sl false false Ty.bool g.B,D.sl false false Ty.bool g.R,D.sl false false Ty.bool g.L]] (D.v (Value.int .i64 (checkF g))) [] []∧Value.int .i64 g.h=Value.int .i64 g.h∧Value.int .i64 g.w=Value.int .i64 g.w∧g.B=g.B∧g.R=g.R∧g.L=g.L∧((checkF g !=(0:Int))=true→R (D.v (Value.int .i64 (checkF g)),[],[]))∧((checkF g !=(0:Int))=false→(decide ((↑W.length:Int)>(1000:Int))=true→R (D.v (Value.int .i64 (111:Int)),[],[]))∧(decide ((↑W.length:Int)>(1000:Int))=false→SameK (KK n62 0) (KK n62 0)∧G 0 (stOf 46 [1,18,19,20] [D.ptr 0 0 0,D.sl false false (Ty.int .i64).sl W,D.v (Value.int .i64 (↑W.length:Int)),D.v (Value.int .i64 (0:Int))] [Slot.live (Row.box 73 [D.v (Value.int .i64 g.h),D.v (Value.int .i64 g.w),D.sl false false Ty.bool g.B,D.sl false false Ty.bool g.R,D.sl false false Ty.bool g.L,D.sl false false (Ty.int .i64).sl W,D.sl false false (Ty.int .u64) (Mi M)])])))) hmG Tryd.func89 (by kernel_rfl) (by kernel_rfl) (fun G R=>by kernel_rfl) ?_
 try dsimp only
 have cg:=d43 g
 unfold checkP
 simp only
 by_cases hc:checkF g=0
 ·rw[if_pos hc]
  by_cases hW:(W.length:Int)>1000
  ·rw[if_pos hW]
   simp (disch:=omega) only[oo,oop,ne_eq,Ty.dflt,reduceCtorEq]
   repeat' (first|with_reducible refine And.intro ?_ ?_|intro _)
   all_goals first|rfl|omega|assumption|trivial|exact cg|(exfalso;omega)|skip
  ·rw[if_neg hW]
   have hx:=e62 g W M hc (by omega) W.length 0 (by omega) (by omega) _ rfl
   simp only[show(0:Int).toNat=0 by rfl,List.drop_zero] at hx
   simp (disch:=omega) only[oo,oop,ne_eq,Ty.dflt,reduceCtorEq]
   repeat' (first|with_reducible refine And.intro ?_ ?_|intro _)
   all_goals first|rfl|omega|assumption|trivial|exact cg|(exfalso;omega)|skip
 ·rw[if_neg hc]
  simp (disch:=omega) only[oo,oop,ne_eq,Ty.dflt,reduceCtorEq]
  repeat' (first|with_reducible refine And.intro ?_ ?_|intro _)
  all_goals first|rfl|omega|assumption|trivial|exact cg|(exfalso;omega)|skip
def vq16 (g:Gr) (W:List (List Int)) (M:List Nat) (i:Int) (w:List Int) (k:Int) (G:Nat→St→Prop) (R:D×List (Option Row)×List Row→Prop):Prop:=let yy0:=(Row.box 73 [D.v (Value.int .i64 g.h),D.v (Value.int .i64 g.w),D.sl false false Ty.bool g.B,D.sl false false Ty.bool g.R,D.sl false false Ty.bool g.L,D.sl false false (Ty.int .i64).sl W,D.sl false false (Ty.int .u64) (Mi M)]);let yy1:=(Ty.int .i64);(decide (k< (↑w.length:Int))=true→(0:Int)≤k∧k< (↑w.length:Int)∧(decide (w.getD k.toNat yy1.dflt< (0:Int))=true→true=true∧R (D.v (Value.int .i64 (35:Int)),[],[]))∧(decide (w.getD k.toNat yy1.dflt< (0:Int))=false→(0:Int)≤k∧k< (↑w.length:Int)∧(decide (w.getD k.toNat yy1.dflt>(63:Int))=true→R (D.v (Value.int .i64 (35:Int)),[],[]))∧(decide (w.getD k.toNat yy1.dflt>(63:Int))=false→SameK (KK n63 1) (KK n63 1)∧G 1 (stOf 66 [1,4,5,6] [D.ptr 0 0 0,D.v (Value.int .i64 i),D.sl false false yy1 w,D.v (Value.int .i64 (IntKind.i64.wrap (k+(1:Int))))] [Slot.live yy0]))))∧(decide (k< (↑w.length:Int))=false→SameK (KK n63 0) (KK n63 0)∧G 0 (stOf 66 [1,4] [D.ptr 0 0 0,D.v (Value.int .i64 (IntKind.i64.wrap (i+(1:Int))))] [Slot.live yy0]))
theorem e63i (g:Gr) (W:List (List Int)) (M:List Nat) (i:Int) (i0:0≤i) (i1:i<1000) (w:List Int) (hw:(w.length:Int)≤32) (R:Int) (hx:GetsK Tryd.prog Tryd.f60.results.toList [none] (KK n63) 0 (.v (.int .i64 R),[],[]) 0 (stOf 66 [1,4] [.ptr 0 0 0,.v (.int .i64 (i+1))] [.live (.box 73 [.v (.int .i64 g.h),.v (.int .i64 g.w),.sl false false .bool g.B,.sl false false .bool g.R,.sl false false .bool g.L,slW W,slU M])])) (z:Nat):∀(k:Int),0≤k→k+z=w.length→∀r,r=(if(w.drop k.toNat).any oddB then 35 else R)→GetsK Tryd.prog Tryd.f60.results.toList [none] (KK n63) 0 (.v (.int .i64 r),[],[]) 1 (stOf 66 [1,4,5,6] [.ptr 0 0 0,.v (.int .i64 i),slI w,.v (.int .i64 k)] [.live (.box 73 [.v (.int .i64 g.h),.v (.int .i64 g.w),.sl false false .bool g.B,.sl false false .bool g.R,.sl false false .bool g.L,slW W,slU M])]):=by
 have hi1:IntKind.i64.wrap (i+1)=i+1:=wrG (by omega) (by omega)
 induction z with
 |zero=>
  intro k k0 hk r hr
  rw[List.drop_eq_nil_of_le (by omega)] at hr
  simp only[List.any_nil,Bool.false_eq_true,if_false] at hr
  subst hr
  refine gets_vc spNa (fun k=> [[1,4],[1,4,5,6]].getD k []) (fun _=> []) 400 (.fork (.fork (.t .stop) (.fork .stop (.hd 1))) (.hd 0)) (V:=vq16 g W M i w k) hmG (fun G R=>by kernel_rfl) ?_
  unfold vq16
  try dsimp only
  rw[hi1]
  simp (disch:=omega) only[oo,oop,ne_eq,Ty.dflt,reduceCtorEq]
  repeat' (first|with_reducible refine And.intro ?_ ?_|intro _)
  all_goals first|rfl|omega|assumption|trivial|(exfalso;simp_all;done)|(exfalso;omega)|skip
 |succ z ih=>
  intro k k0 hk r hr
  have hd:=drop_at (xs:=w) (i:=k) (0:Int) k0 (by omega)
  rw[hd] at hr
  simp only[List.any_cons] at hr
  have hk1:IntKind.i64.wrap (k+1)=k+1:=wrG (by omega) (by omega)
  have hy:=ih (k+1) (by omega) (by omega) _ rfl
  refine gets_vc spNa (fun k=> [[1,4],[1,4,5,6]].getD k []) (fun _=> []) 400 (.fork (.fork (.t .stop) (.fork .stop (.hd 1))) (.hd 0)) (V:=vq16 g W M i w k) hmG (fun G R=>by kernel_rfl) ?_
  unfold vq16
  try dsimp only
  simp only[Ty.dflt,hk1]
  obtain⟨c,hc⟩:∃c,w.getD k.toNat 0=c:=⟨_,rfl⟩
  simp only[hc] at hr⊢
  unfold oddB at hr
  by_cases h1:c<0
  ·rw[decide_eq_true h1] at hr
   simp only[Bool.true_or,if_true] at hr
   subst hr
   simp (disch:=omega) only[oo,oop,ne_eq,Ty.dflt,reduceCtorEq]
   repeat' (first|with_reducible refine And.intro ?_ ?_|intro _)
   all_goals first|rfl|omega|assumption|trivial|(exfalso;simp_all;done)|(exfalso;omega)|skip
  ·rw[decide_eq_false h1] at hr
   by_cases h2:c>63
   ·rw[decide_eq_true h2] at hr
    simp only[Bool.true_or,Bool.or_true,Bool.false_or,if_true] at hr
    subst hr
    simp (disch:=omega) only[oo,oop,ne_eq,Ty.dflt,reduceCtorEq]
    repeat' (first|with_reducible refine And.intro ?_ ?_|intro _)
    all_goals first|rfl|omega|assumption|trivial|(exfalso;simp_all;done)|(exfalso;omega)|skip
   ·rw[decide_eq_false h2] at hr
    simp only[Bool.false_or] at hr
    subst hr
    simp (disch:=omega) only[oo,oop,ne_eq,Ty.dflt,reduceCtorEq]
    repeat' (first|with_reducible refine And.intro ?_ ?_|intro _)
    all_goals first|rfl|omega|assumption|trivial|(exfalso;simp_all;done)|(exfalso;omega)|skip
def vq17 (g:Gr) (W:List (List Int)) (M:List Nat) (k:Int) (G:Nat→St→Prop) (R:D×List (Option Row)×List Row→Prop):Prop:=let yy0:=(↑(List.length (W.getD k.toNat (Ty.int .i64).sl.dflt)):Int);(decide (k< (↑W.length:Int))=true→(0:Int)≤k∧k< (↑W.length:Int)∧(decide (yy0< (1:Int))=true→true=true∧R (D.v (Value.int .i64 (35:Int)),[],[]))∧(decide (yy0< (1:Int))=false→(decide (yy0>(32:Int))=true→R (D.v (Value.int .i64 (35:Int)),[],[]))∧(decide (yy0>(32:Int))=false→SameK (KK n63 1) (KK n63 1)∧G 1 (stOf 66 [1,4,5,6] [D.ptr 0 0 0,D.v (Value.int .i64 k),D.sl false false (Ty.int .i64) (W.getD k.toNat (Ty.int .i64).sl.dflt),D.v (Value.int .i64 (0:Int))] [Slot.live (Row.box 73 [D.v (Value.int .i64 g.h),D.v (Value.int .i64 g.w),D.sl false false Ty.bool g.B,D.sl false false Ty.bool g.R,D.sl false false Ty.bool g.L,D.sl false false (Ty.int .i64).sl W,D.sl false false (Ty.int .u64) (Mi M)])]))))∧(decide (k< (↑W.length:Int))=false→(((↑(Mi M).length:Int) !=IntKind.i64.wrap (g.h*g.w))=true→R (D.v (Value.int .i64 (120:Int)),[],[]))∧(((↑(Mi M).length:Int) !=IntKind.i64.wrap (g.h*g.w))=false→R (D.v (Value.int .i64 (0:Int)),[],[])))
theorem e63 (g:Gr) (W:List (List Int)) (M:List Nat) (hc:checkF g=0) (hW:(W.length:Int)≤1000) (z:Nat):∀(k:Int),0≤k→k+z=W.length→∀r,r=(if(W.drop k.toNat).any badW then 35 else if(M.length:Int)=g.h*g.w then 0 else 120)→GetsK Tryd.prog Tryd.f60.results.toList [none] (KK n63) 0 (.v (.int .i64 r),[],[]) 0 (stOf 66 [1,4] [.ptr 0 0 0,.v (.int .i64 k)] [.live (.box 73 [.v (.int .i64 g.h),.v (.int .i64 g.w),.sl false false .bool g.B,.sl false false .bool g.R,.sl false false .bool g.L,slW W,slU M])]):=by
 have ew:=hw_wrap (chk0.1 hc).1 (chk0.1 hc).2.1
 induction z with
 |zero=>
  intro k k0 hk r hr
  rw[List.drop_eq_nil_of_le (by omega)] at hr
  simp only[List.any_nil,Bool.false_eq_true,if_false] at hr
  rw[hr]
  refine gets_vc spNa (fun k=> [[1,4],[1,4,5,6]].getD k []) (fun _=> []) 400 (.fork (.fork (.t .stop) (.fork .stop (.hd 1))) (.fork .stop .stop)) (V:=vq17 g W M k) hmG (fun G R=>by kernel_rfl) ?_
  unfold vq17
  try dsimp only
  simp only[Mi_len,ew]
  simp (disch:=omega) only[oo,oop,ne_eq,Ty.dflt,reduceCtorEq]
  repeat' (first|with_reducible refine And.intro ?_ ?_|intro _)
  all_goals first|rfl|omega|assumption|trivial|(simp_all;done)|(rw[if_neg (by omega)])|(rw[if_pos (by omega)])|(exfalso;simp_all;done)|(exfalso;omega)|skip
 |succ z ih=>
  intro k k0 hk r hr
  have hd:=drop_at (xs:=W) (i:=k) ([]:List Int) k0 (by omega)
  rw[hd] at hr
  simp only[List.any_cons] at hr
  have hk1:IntKind.i64.wrap (k+1)=k+1:=wrG (by omega) (by omega)
  have hx:=ih (k+1) (by omega) (by omega) _ rfl
  refine gets_vc spNa (fun k=> [[1,4],[1,4,5,6]].getD k []) (fun _=> []) 400 (.fork (.fork (.t .stop) (.fork .stop (.hd 1))) (.fork .stop .stop)) (V:=vq17 g W M k) hmG (fun G R=>by kernel_rfl) ?_
  unfold vq17
  try dsimp only
  simp only[Ty.dflt,hk1]
  obtain⟨w,hw⟩:∃w,W.getD k.toNat []=w:=⟨_,rfl⟩
  simp only[hw] at hr⊢
  by_cases h1:(w.length:Int)<1
  ·have:badW w=true:=by unfold badW;rw[decide_eq_true h1];rfl
   rw[this] at hr
   simp only[Bool.true_or,if_true] at hr
   rw[hr]
   simp (disch:=omega) only[oo,oop,ne_eq,Ty.dflt,reduceCtorEq]
   repeat' (first|with_reducible refine And.intro ?_ ?_|intro _)
   all_goals first|rfl|omega|assumption|trivial|(exfalso;simp_all;done)|(exfalso;omega)|skip
  ·by_cases h2:(w.length:Int)>32
   ·have:badW w=true:=by unfold badW;rw[decide_eq_true h2];simp
    rw[this] at hr
    simp only[Bool.true_or,if_true] at hr
    rw[hr]
    simp (disch:=omega) only[oo,oop,ne_eq,Ty.dflt,reduceCtorEq]
    repeat' (first|with_reducible refine And.intro ?_ ?_|intro _)
    all_goals first|rfl|omega|assumption|trivial|(exfalso;simp_all;done)|(exfalso;omega)|skip
   ·have:badW w=w.any oddB:=by unfold badW;rw[decide_eq_false h1,decide_eq_false h2];rfl
    rw[this] at hr
    have hy:=e63i g W M k k0 (by omega) w (by omega) _ hx w.length 0 (by omega) (by omega) r (by
     rw[hr,show(0:Int).toNat=0 by rfl,List.drop_zero]
     cases w.any oddB<;>simp)
    simp (disch:=omega) only[oo,oop,ne_eq,Ty.dflt,reduceCtorEq]
    repeat' (first|with_reducible refine And.intro ?_ ?_|intro _)
    all_goals first|rfl|omega|assumption|trivial|(exfalso;simp_all;done)|(exfalso;omega)|skip
theorem d63 (g:Gr) (W:List (List Int)) (M:List Nat):Con Tryd.prog 60 [] [.agg [.v (.int .i64 g.h),.v (.int .i64 g.w),.sl false false .bool g.B,.sl false false .bool g.R,.sl false false .bool g.L,slW W,slU M]] ((.v (.int .i64 (checkP ⟨g,W,M⟩)))) [] []:=by
 refine con_vc (how:=[none]) (c:=n63) (K:=(KK n63)) spNa (fun k=> [[1,4],[1,4,5,6]].getD k []) (fun _=> []) 400 (.fork .stop (.fork .stop (.hd 0))) (V:=fun G R=>Con Tryd.prog 80 [] [D.agg [D.v (Value.int .i64 g.h),D.v (Value.int .i64 g.w),D.sl false false Ty.bool g.B,D.sl false false Ty.bool g.R,D.sl false false Ty.bool g.L]] (D.v (Value.int .i64 (checkF g))) [] []∧Value.int .i64 g.h=Value.int .i64 g.h∧Value.int .i64 g.w=Value.int .i64 g.w∧g.B=g.B∧g.R=g.R∧g.L=g.L∧((checkF g !=(0:Int))=true→R (D.v (Value.int .i64 (checkF g)),[],[]))∧((checkF g !=(0:Int))=false→(decide ((↑W.length:Int)>(1000:Int))=true→R (D.v (Value.int .i64 (111:Int)),[],[]))∧(decide ((↑W.length:Int)>(1000:Int))=false→SameK (KK n63 0) (KK n63 0)∧G 0 (stOf 66 [1,4] [D.ptr 0 0 0,D.v (Value.int .i64 (0:Int))] [Slot.live (Row.box 73 [D.v (Value.int .i64 g.h),D.v (Value.int .i64 g.w),D.sl false false Ty.bool g.B,D.sl false false Ty.bool g.R,D.sl false false Ty.bool g.L,D.sl false false (Ty.int .i64).sl W,D.sl false false (Ty.int .u64) (Mi M)])])))) hmG Tryd.func60 (by kernel_rfl) (by kernel_rfl) (fun G R=>by kernel_rfl) ?_
 try dsimp only
 have cg:=d44 g
 unfold checkP
 simp only
 by_cases hc:checkF g=0
 ·rw[if_pos hc]
  by_cases hW:(W.length:Int)>1000
  ·rw[if_pos hW]
   simp (disch:=omega) only[oo,oop,ne_eq,Ty.dflt,reduceCtorEq]
   repeat' (first|with_reducible refine And.intro ?_ ?_|intro _)
   all_goals first|rfl|omega|assumption|trivial|exact cg|(exfalso;omega)|skip
  ·rw[if_neg hW]
   have hx:=e63 g W M hc (by omega) W.length 0 (by omega) (by omega) _ rfl
   simp only[show(0:Int).toNat=0 by rfl,List.drop_zero] at hx
   simp (disch:=omega) only[oo,oop,ne_eq,Ty.dflt,reduceCtorEq]
   repeat' (first|with_reducible refine And.intro ?_ ?_|intro _)
   all_goals first|rfl|omega|assumption|trivial|exact cg|(exfalso;omega)|skip
 ·rw[if_neg hc]
  simp (disch:=omega) only[oo,oop,ne_eq,Ty.dflt,reduceCtorEq]
  repeat' (first|with_reducible refine And.intro ?_ ?_|intro _)
  all_goals first|rfl|omega|assumption|trivial|exact cg|(exfalso;omega)|skip
def vq18 (A:List Int) (B:List Int) (k:Int) (G:Nat→St→Prop) (R:D×List (Option Row)×List Row→Prop):Prop:=let yy0:=(Ty.int .u64);(decide (k< (↑A.length:Int))=true→(0:Int)≤k∧k< (↑A.length:Int)∧(0:Int)≤k∧k< (↑B.length:Int)∧((A.getD k.toNat yy0.dflt !=B.getD k.toNat yy0.dflt)=true→R (D.v (Value.bool false),[],[]))∧((A.getD k.toNat yy0.dflt !=B.getD k.toNat yy0.dflt)=false→SameK (KK n102 0) (KK n102 0)∧G 0 (stOf 26 [0,1,5] [D.sl false false yy0 A,D.sl false false yy0 B,D.v (Value.int .i64 (IntKind.i64.wrap (k+(1:Int))))] [])))∧(decide (k< (↑A.length:Int))=false→R (D.v (Value.bool true),[],[]))
theorem e102 (A B:List Int) (hl:A.length=B.length) (hA:(A.length:Int)≤9223372036854775807) (z:Nat):∀(k:Int),0≤k→k+z=A.length→∀r,r=decide (A.drop k.toNat=B.drop k.toNat)→GetsK Tryd.prog Tryd.f95.results.toList [none] (KK n102) 0 (.v (.bool r),[],[]) 0 (stOf 26 [0,1,5] [.sl false false (.int .u64) A,.sl false false (.int .u64) B,.v (.int .i64 k)] []):=by
 induction z with
 |zero=>
  intro k k0 hk r hr
  rw[List.drop_eq_nil_of_le (by omega),List.drop_eq_nil_of_le (by omega)] at hr
  have hr:r=true:=by rw[hr];rfl
  rw[hr]
  refine gets_vc spNa (fun _=> [0,1,5]) (fun _=> []) 400 (.fork (.fork .stop (.hd 0)) .stop) (V:=vq18 A B k) hmG (fun G R=>by kernel_rfl) ?_
  unfold vq18
  try dsimp only
  simp (disch:=omega) only[oo,oop,ne_eq,Ty.dflt,reduceCtorEq]
  repeat' (first|with_reducible refine And.intro ?_ ?_|intro _)
  all_goals first|rfl|omega|assumption|trivial|(exfalso;simp_all;done)|(exfalso;omega)|skip
 |succ z ih=>
  intro k k0 hk r hr
  rw[drop_at (xs:=A) (i:=k) (0:Int) k0 (by omega),drop_at (xs:=B) (i:=k) (0:Int) k0 (by omega)] at hr
  have hk1:IntKind.i64.wrap (k+1)=k+1:=wrG (by omega) (by omega)
  have hx:=ih (k+1) (by omega) (by omega) _ rfl
  refine gets_vc spNa (fun _=> [0,1,5]) (fun _=> []) 400 (.fork (.fork .stop (.hd 0)) .stop) (V:=vq18 A B k) hmG (fun G R=>by kernel_rfl) ?_
  unfold vq18
  try dsimp only
  simp only[Ty.dflt,hk1]
  by_cases h:A.getD k.toNat 0=B.getD k.toNat 0
  ·have hr:r=decide (A.drop (k+1).toNat=B.drop (k+1).toNat):=by
    rw[hr]
    simp only[List.cons.injEq,h,true_and]
   rw[←hr] at hx
   simp (disch:=omega) only[oo,oop,ne_eq,Ty.dflt,reduceCtorEq]
   repeat' (first|with_reducible refine And.intro ?_ ?_|intro _)
   all_goals first|rfl|omega|assumption|trivial|(exfalso;simp_all;done)|(exfalso;omega)|skip
  ·have hr:r=false:=by
    rw[hr]
    refine decide_eq_false (fun e=>h ?_)
    rw[List.cons.injEq] at e
    exact e.1
   rw[hr]
   simp (disch:=omega) only[oo,oop,ne_eq,Ty.dflt,reduceCtorEq]
   repeat' (first|with_reducible refine And.intro ?_ ?_|intro _)
   all_goals first|rfl|omega|assumption|trivial|(exfalso;simp_all;done)|(exfalso;omega)|skip
theorem d102 (A B:List Int) (hA:(A.length:Int)≤9223372036854775807):Con Tryd.prog 95 [] [.sl false false (.int .u64) A,.sl false false (.int .u64) B] ((.v (.bool (decide (A=B))))) [] []:=by
 refine con_vc (how:=[none]) (c:=n102) (K:=(KK n102)) spNa (fun _=> [0,1,5]) (fun _=> []) 400 (.fork .stop (.hd 0)) (V:=fun G R=>(((↑A.length:Int) !=(↑B.length:Int))=true→R (D.v (Value.bool false),[],[]))∧(((↑A.length:Int) !=(↑B.length:Int))=false→SameK (KK n102 0) (KK n102 0)∧G 0 (stOf 26 [0,1,5] [D.sl false false (Ty.int .u64) A,D.sl false false (Ty.int .u64) B,D.v (Value.int .i64 (0:Int))] []))) hmG Tryd.func95 (by kernel_rfl) (by kernel_rfl) (fun G R=>by kernel_rfl) ?_
 try dsimp only
 by_cases hl:A.length=B.length
 ·have hx:=e102 A B hl hA A.length 0 (by omega) (by omega) _ rfl
  simp only[show(0:Int).toNat=0 by rfl,List.drop_zero] at hx
  simp (disch:=omega) only[oo,oop,ne_eq,Ty.dflt,reduceCtorEq]
  repeat' (first|with_reducible refine And.intro ?_ ?_|intro _)
  all_goals first|rfl|omega|assumption|trivial|(exfalso;simp_all;done)|(exfalso;omega)|skip
 ·rw[decide_eq_false (fun e=>hl (by rw[e]))]
  simp (disch:=omega) only[oo,oop,ne_eq,Ty.dflt,reduceCtorEq]
  repeat' (first|with_reducible refine And.intro ?_ ?_|intro _)
  all_goals first|rfl|omega|assumption|trivial|(exfalso;simp_all;done)|(exfalso;omega)|skip
def Smalls (m:List Nat):Prop:=∀x∈m,x<W64
theorem Smalls.at {m:List Nat} (h:Smalls m) (i:Nat):m.getD i 0<W64:=by
 rw[List.getD_eq_getElem?_getD]
 cases hi:m[i]? with
 |none=>show 0<W64;decide
 |some x=>exact h x (List.mem_of_getElem? hi)
def vq19 (m:List Nat) (n:Int) (d:Bool) (K:List Int) (w:List Int) (k:Int) (G:Nat→St→Prop) (R:D×List (Option Row)×List Row→Prop):Prop:=let yy0:=((Mi m).getD (Int.toNat (K.getD k.toNat (Ty.int .i64).dflt)) (Ty.int .u64).dflt);let yy1:=(w.getD k.toNat (Ty.int .i64).dflt);(decide (k< (↑w.length:Int))=true→(0:Int)≤k∧k< (↑K.length:Int)∧(0:Int)≤K.getD k.toNat (Ty.int .i64).dflt∧K.getD k.toNat (Ty.int .i64).dflt< (↑(Mi m).length:Int)∧(0:Int)≤k∧k< (↑w.length:Int)∧Con Tryd.prog 33 [] [D.v (Value.int .u64 yy0),D.v (Value.int .i64 yy1)] (D.v (Value.bool (hasN (Int.toNat yy0) yy1))) [] []∧Value.int .u64 yy0=Value.int .u64 yy0∧Value.int .i64 yy1=Value.int .i64 yy1∧((!hasN (Int.toNat yy0) yy1)=true→R (D.v (Value.bool false),[],[]))∧((!hasN (Int.toNat yy0) yy1)=false→SameK (KK n126 0) (KK n126 0)∧G 0 (stOf 34 [0,2,4,7] [D.sl false false (Ty.int .u64) (Mi m),D.sl false false (Ty.int .i64) w,D.ptr 0 0 0,D.v (Value.int .i64 (IntKind.i64.wrap (k+(1:Int))))] [Slot.live (Row.box 50 [D.v (Value.int .i64 n),D.v (Value.bool d),D.sl false false (Ty.int .i64) K])])))∧(decide (k< (↑w.length:Int))=false→R (D.v (Value.bool true),[],[]))
theorem e126 (m:List Nat) (n:Int) (d:Bool) (K w:List Int) (hl:w.length=K.length) (hw:(w.length:Int)≤9223372036854775807) (hm:Smalls m) (hK:∀c∈K,0≤c∧c<m.length) (z:Nat):∀(k:Int),0≤k→k+z=w.length→∀r,r=((K.drop k.toNat).zip (w.drop k.toNat)).all (fun q=>hasN (m.getD q.1.toNat 0) q.2)→GetsK Tryd.prog Tryd.f156.results.toList [none] (KK n126) 0 (.v (.bool r),[],[]) 0 (stOf 34 [0,2,4,7] [slU m,slI w,.ptr 0 0 0,.v (.int .i64 k)] [.live (.box 50 [.v (.int .i64 n),.v (.bool d),slI K])]):=by
 induction z with
 |zero=>
  intro k k0 hk r hr
  rw[List.drop_eq_nil_of_le (by omega)] at hr
  have hr:r=true:=by rw[hr];rfl
  rw[hr]
  refine gets_vc spNa (fun _=> [0,2,4,7]) (fun _=> []) 400 (.fork (.fork .stop (.hd 0)) .stop) (V:=vq19 m n d K w k) hmG (fun G R=>by kernel_rfl) ?_
  unfold vq19
  try dsimp only
  simp (disch:=omega) only[oo,oop,ne_eq,Ty.dflt,reduceCtorEq]
  repeat' (first|with_reducible refine And.intro ?_ ?_|intro _)
  all_goals first|rfl|omega|assumption|trivial|(exfalso;simp_all;done)|(exfalso;omega)|skip
 |succ z ih=>
  intro k k0 hk r hr
  rw[drop_at (xs:=K) (i:=k) (0:Int) k0 (by omega),drop_at (xs:=w) (i:=k) (0:Int) k0 (by omega)] at hr
  simp only[List.zip_cons_cons,List.all_cons] at hr
  have hk1:IntKind.i64.wrap (k+1)=k+1:=wrG (by omega) (by omega)
  have hx:=ih (k+1) (by omega) (by omega) _ rfl
  have hc:=hK (K.getD k.toNat 0) (getD_in (by omega))
  have c1:=d111 (m.getD (K.getD k.toNat 0).toNat 0) (w.getD k.toNat 0) (hm.at _)
  refine gets_vc spNa (fun _=> [0,2,4,7]) (fun _=> []) 400 (.fork (.fork .stop (.hd 0)) .stop) (V:=vq19 m n d K w k) hmG (fun G R=>by kernel_rfl) ?_
  unfold vq19
  try dsimp only
  simp only[Ty.dflt,hk1,Mi_getD,Mi_len,Int.toNat_natCast]
  cases ho:hasN (m.getD (K.getD k.toNat 0).toNat 0) (w.getD k.toNat 0)<;>rw[ho] at c1 hr<;>simp only[Bool.true_and,Bool.false_and] at hr<;>subst hr
  all_goals simp (disch:=omega) only[oo,oop,ne_eq,Ty.dflt,reduceCtorEq];repeat' (first|with_reducible refine And.intro ?_ ?_|intro _)
  all_goals first|rfl|omega|assumption|trivial|(exfalso;simp_all;done)|(exfalso;omega)|skip
theorem d126 (m:List Nat) (n:Int) (d:Bool) (K w:List Int) (hw:(K.length:Int)≤9223372036854775807) (hm:Smalls m) (hK:∀c∈K,0≤c∧c<m.length):Con Tryd.prog 156 [] [slU m,.agg [.v (.int .i64 n),.v (.bool d),slI K],slI w] ((.v (.bool (fitL m K w)))) [] []:=by
 refine con_vc (how:=[none]) (c:=n126) (K:=(KK n126)) spNa (fun _=> [0,2,4,7]) (fun _=> []) 400 (.fork .stop (.hd 0)) (V:=fun G R=>(((↑w.length:Int) !=(↑K.length:Int))=true→R (D.v (Value.bool false),[],[]))∧(((↑w.length:Int) !=(↑K.length:Int))=false→SameK (KK n126 0) (KK n126 0)∧G 0 (stOf 34 [0,2,4,7] [D.sl false false (Ty.int .u64) (Mi m),D.sl false false (Ty.int .i64) w,D.ptr 0 0 0,D.v (Value.int .i64 (0:Int))] [Slot.live (Row.box 50 [D.v (Value.int .i64 n),D.v (Value.bool d),D.sl false false (Ty.int .i64) K])]))) hmG Tryd.func156 (by kernel_rfl) (by kernel_rfl) (fun G R=>by kernel_rfl) ?_
 try dsimp only
 by_cases hl:w.length=K.length
 ·have hx:=e126 m n d K w hl (by omega) hm hK w.length 0 (by omega) (by omega) _ rfl
  simp only[show(0:Int).toNat=0 by rfl,List.drop_zero] at hx
  have e:fitL m K w=(K.zip w).all (fun q=>hasN (m.getD q.1.toNat 0) q.2):=by
   unfold fitL
   rw[hl,beq_self_eq_true,Bool.true_and]
  rw[e]
  simp (disch:=omega) only[oo,oop,ne_eq,Ty.dflt,reduceCtorEq]
  repeat' (first|with_reducible refine And.intro ?_ ?_|intro _)
  all_goals first|rfl|omega|assumption|trivial|(exfalso;simp_all;done)|(exfalso;omega)|skip
 ·have e:fitL m K w=false:=by
   unfold fitL
   rw[beq_eq_false_iff_ne.2 hl,Bool.false_and]
  rw[e]
  simp (disch:=omega) only[oo,oop,ne_eq,Ty.dflt,reduceCtorEq]
  repeat' (first|with_reducible refine And.intro ?_ ?_|intro _)
  all_goals first|rfl|omega|assumption|trivial|(exfalso;simp_all;done)|(exfalso;omega)|skip
end Go.Proofs.YtnakmganodkliaaDoorAm
namespace Go.Proofs.YtnakmganodkliaaDoorAm
open Go
theorem con_frzS {P:Program} {f:FuncId} {args:List D} {n:Nat} {cap:Option Nat} {e:TypeId} {t:Ty} {xs:List t.El} (hn:xs.length=n) (h:Con P f [] args (.own 0 0 n cap) [] [.data e t xs]):Con P f [] args (.sl false false t xs) [] []:=by
 refine⟨h.fn,fun w ρ S vs M hargs=>(h.run w ρ S vs M hargs).mono ?_⟩
 rintro ex w' ⟨v,ρ',S',h1,h2,h3⟩
 have h0:hget (List.map slotOf []++List.map Slot.live [.data e t xs]) 0=some (.data e t xs):=rfl
 have hr:rowData (hget (List.map slotOf []++List.map Slot.live [.data e t xs])) 0 0 n t=some xs:=by
  unfold rowData
  rw[h0]
  simp only[dif_pos,List.drop_zero,←hn,List.take_length]
 obtain⟨_,A,c',us',e1,k1,k2,k3,k4,k5⟩:=own_seq (S':=softS ⟨ρ',List.map slotOf []++List.map Slot.live [.data e t xs],S',w'⟩ [0]) h2 (fun _ h=> .inl h) (fun _ _ h=>h) hr (fun l hl' k hk=> .inr ⟨0,by simp,by rw[h0];simp,l,hl',hk⟩) h3
 obtain⟨M2,_⟩:=mem_kill h2 h0 (softS ⟨ρ',List.map slotOf []++List.map Slot.live [.data e t xs],S',w'⟩ [0]) (fun k hk=> .inl hk) (fun k hk=>by
  rcases hk with hk|⟨id,hid,_,l,hl,hb⟩
  ·exact .inl hk
  ·simp only[List.mem_singleton] at hid
   subst hid
   exact .inr ⟨l,hl,hb⟩)
 have hp:=mem_pack M2 (n:=0) rfl (ids:=[]) (ds:=[]) rfl
 refine⟨v,_,_,h1,hp,?_⟩
 simp only[RelD]
 exact⟨A,c',us',e1,k1,k2,by simp,by simp,k3,k4⟩
end Go.Proofs.YtnakmganodkliaaDoorAm
set_option maxRecDepth 100000
namespace Go.Proofs.YtnakmganodkliaaDoorAm
open Go
def addT (w:List Int):Nat→List (List Int)→List (List Int)
 |0,th=>th
 |k+1,th=>(addT w k th).set k ((addT w k th).getD k []++[w.getD k 0])
def colsF (f:List Int→Bool) (n:Nat) (V:List (List Int)):List (List Int):=(List.range n).map fun j=>(V.filter f).map (·.getD j 0)
theorem addT_len (w:List Int):∀(k:Nat) (th:List (List Int)),(addT w k th).length=th.length
 |0,_=>rfl
 |k+1,th=>by simp only[addT,List.length_set];exact addT_len w k th
theorem getD_set_gen {α:Type} (d:α) (m:List α) (c:Nat) (v:α) (j:Nat):(m.set c v).getD j d=if c=j∧c<m.length then v else m.getD j d:=by
 simp only[List.getD_eq_getElem?_getD,List.getElem?_set]
 by_cases h:c=j
 ·subst h
  by_cases h2:c<m.length<;>simp[h2]
 ·simp[h]
theorem addT_get (w:List Int):∀(k:Nat) (th:List (List Int)) (j:Nat),(addT w k th).getD j []=if j<k∧j<th.length then th.getD j []++[w.getD j 0] else th.getD j []
 |0,th,j=>by simp[addT]
 |k+1,th,j=>by
  simp only[addT]
  rw[getD_set_gen,addT_len,addT_get w k th k,addT_get w k th j]
  by_cases h:k=j
  ·subst h
   by_cases h2:k<th.length
   ·rw[if_pos ⟨rfl,h2⟩,if_neg (by omega),if_pos ⟨by omega,h2⟩]
   ·rw[if_neg (by omega),if_neg (by omega),if_neg (by omega)]
  ·rw[if_neg (by omega)]
   by_cases h2:j<k∧j<th.length
   ·rw[if_pos h2,if_pos (by omega)]
   ·rw[if_neg h2,if_neg (by omega)]
theorem cols_len (f:List Int→Bool) (n:Nat) (V:List (List Int)):(colsF f n V).length=n:=by simp[colsF]
theorem cols_get (f:List Int→Bool) {n j:Nat} (V:List (List Int)) (h:j<n):(colsF f n V).getD j []=(V.filter f).map (·.getD j 0):=by
 simp[colsF,List.getD_eq_getElem?_getD,h]
theorem list_ext_getD {α:Type} (d:α) {a b:List α} (hl:a.length=b.length) (h:∀j,j<a.length→a.getD j d=b.getD j d):a=b:=by
 apply List.ext_getElem hl
 intro j h1 h2
 have:=h j h1
 rw[List.getD_eq_getElem?_getD,List.getD_eq_getElem?_getD,List.getElem?_eq_getElem h1,List.getElem?_eq_getElem h2] at this
 exact this
theorem cols_nil (f:List Int→Bool) (n:Nat):colsF f n []=List.replicate n []:=by
 refine list_ext_getD [] (by simp[cols_len]) fun j hj=> ?_
 rw[cols_len] at hj
 rw[cols_get f [] hj]
 simp[List.getD_eq_getElem?_getD,hj]
theorem cols_yes {f:List Int→Bool} {n:Nat} {V:List (List Int)} {w:List Int} (hf:f w=true):addT w n (colsF f n V)=colsF f n (V++[w]):=by
 refine list_ext_getD [] (by rw[addT_len,cols_len,cols_len]) fun j hj=> ?_
 rw[addT_len,cols_len] at hj
 rw[addT_get,cols_len,if_pos ⟨hj,hj⟩,cols_get f V hj,cols_get f _ hj,List.filter_append,List.map_append]
 simp[List.filter_cons,hf]
theorem cols_no {f:List Int→Bool} {n:Nat} {V:List (List Int)} {w:List Int} (hf:f w=false):colsF f n (V++[w])=colsF f n V:=by
 unfold colsF
 rw[List.filter_append]
 simp[List.filter_cons,hf]
theorem idx_snoc (f:List Int→Bool):∀(V:List (List Int)) (w:List Int) (i:Int),idxF f i (V++[w])=idxF f i V++(if f w then [i+V.length] else [])
 | [],w,i=>by
  simp only[List.nil_append,idxF,List.length_nil]
  cases f w<;>simp
 |v::V,w,i=>by
  simp only[List.cons_append,idxF]
  rw[idx_snoc f V w (i+1)]
  have e:i+1+(V.length:Int)=i+((v::V).length:Int):=by simp;omega
  rw[e]
  cases f v<;>rfl
theorem idx_len (f:List Int→Bool):∀(V:List (List Int)) (i:Int),(idxF f i V).length≤V.length
 | [],_=>by simp[idxF]
 |v::V,i=>by
  simp only[idxF]
  have:=idx_len f V (i+1)
  split<;>simp<;>omega
theorem take_succ_at {α:Type} (d:α) (l:List α) {i:Int} (i0:0≤i) (h:i<l.length):l.take (i+1).toNat=l.take i.toNat++[l.getD i.toNat d]:=by
 rw[show(i+1).toNat=i.toNat+1 by omega,List.take_add_one,List.getD_eq_getElem?_getD,List.getElem?_eq_getElem (by omega)]
 rfl
theorem set_same {α:Type} (d:α) (l:List α) (i:Nat):l.set i (l.getD i d)=l:=by
 rcases Nat.lt_or_ge i l.length with h|h
 ·rw[List.getD_eq_getElem?_getD,List.getElem?_eq_getElem h]
  exact List.set_getElem_self h
 ·exact List.set_eq_of_length_le h
theorem bytes46:Tryd.prog.bytesOf 27=24:=by kernel_rfl
theorem bytes80:Tryd.prog.bytesOf 22=8:=by kernel_rfl
theorem room46 {n:Nat} (h:n≤1000000):roomy Tryd.prog 27 n:=by
 unfold roomy
 rw[bytes46]
 omega
theorem room80 {n:Nat} (h:n≤1000000):roomy Tryd.prog 22 n:=by
 unfold roomy
 rw[bytes80]
 omega
end Go.Proofs.YtnakmganodkliaaDoorAm
set_option maxRecDepth 100000
namespace Go.Proofs.YtnakmganodkliaaDoorAm
open Go
structure Fine (W:List (List Int)) (S:List Slt) (m:List Nat):Prop where
 words:(W.length:Int)≤1000
 long:∀w∈W,w.length≤32
 slots:S.length≤1000
 cells:∀s∈S,s.2.2.length≤300∧∀c∈s.2.2,0≤c∧c<m.length
 size:m.length≤300
 small:Smalls m
theorem meet_smalls {th:Nat→Nat}:∀{cs:List Int} {k:Nat} {m:List Nat},Smalls m→Smalls (meetL th k cs m)
 | [],_,_,h=>h
 |c::cs,k,m,h=>by
  simp only[meetL]
  refine meet_smalls (cs:=cs) ?_
  intro x hx
  rcases List.mem_or_eq_of_mem_set hx with hx|hx
  ·exact h x hx
  ·rw[hx];exact and_lt (h.at _)
def vq20 (g:Gr) (W:List (List Int)) (M:List Nat) (S:List Slt) (m:List Nat) (n:Nat) (f:List Int→Bool) (ws:List (List Int)) (s:Int) (k:Int) (nx:List Nat) (G:Nat→St→Prop) (R:D×List (Option Row)×List Row→Prop):Prop:=let yy0:=((colsF f n W).getD (0+k.toNat) (NK.mk 27 (Ty.int .i64).sl 0 3 (Ty.int .i64)).t.dflt);let yy1:=(S.getD s.toNat ((Ty.int .i64).prod (Ty.bool.prod (Ty.int .i64).sl)).dflt);let yy2:=((Mi nx).getD (0+Int.toNat (List.getD yy1.snd.snd k.toNat (Ty.int .i64).dflt)) (Ty.int .u64).dflt);let yy3:=(Ty.int .i64);let yy4:=(↑(ofN (List.take (List.length yy0) (List.drop 0 yy0))):Int);let yy5:=(Row.box 73 [D.v (Value.int .i64 g.h),D.v (Value.int .i64 g.w),D.sl false false Ty.bool g.B,D.sl false false Ty.bool g.R,D.sl false false Ty.bool g.L,D.sl false false yy3.sl W,D.sl false false (Ty.int .u64) (Mi M)]);let yy6:=(List.getD yy1.snd.snd k.toNat yy3.dflt);(decide (k< (↑n:Int))=true→(0:Int)≤s∧s< (↑S.length:Int)∧(0:Int)≤k∧k< (↑(List.length yy1.snd.snd):Int)∧(0:Int)≤List.getD yy1.snd.snd k.toNat yy3.dflt∧List.getD yy1.snd.snd k.toNat yy3.dflt< (↑nx.length:Int)∧0+Int.toNat yy6< (Mi nx).length∧(0:Int)≤k∧k< (↑n:Int)∧0+k.toNat< (colsF f n W).length∧Con Tryd.prog 30 [] [D.sl false false yy3 (List.take (List.length yy0) (List.drop 0 yy0))] (D.v (Value.int .u64 yy4)) [] []∧List.take (List.length yy0) (List.drop 0 yy0)=List.take (List.length yy0) (List.drop 0 yy0)∧Con Tryd.prog 124 [] [D.v (Value.int .u64 yy2),D.v (Value.int .u64 yy4)] (D.v (Value.int .u64 (↑(Int.toNat yy2&&&yy4.toNat):Int))) [] []∧Value.int .u64 yy2=Value.int .u64 yy2∧Value.int .u64 yy4=Value.int .u64 yy4∧(0:Int)≤List.getD yy1.snd.snd k.toNat yy3.dflt∧List.getD yy1.snd.snd k.toNat yy3.dflt< (↑nx.length:Int)∧0+Int.toNat yy6< (Mi nx).length∧SameK (KK n101 3) (KK n101 3)∧G 3 (stOf 112 [1,2,3,8,9,10,12,15] [D.sl false false (yy3.prod (Ty.bool.prod yy3.sl)) S,D.sl false false (Ty.int .u64) (Mi m),D.ptr 0 0 0,D.own 1 0 nx.length none,D.own 2 0 ws.length none,D.v (Value.int .i64 s),D.own 3 0 n (some n),D.v (Value.int .i64 (IntKind.i64.wrap (k+(1:Int))))] [Slot.live yy5,Slot.live (Row.data 22 (Ty.int .u64) ((Mi nx).set (0+Int.toNat yy6) (↑(Int.toNat yy2&&&yy4.toNat):Int))),Slot.live (Row.nest (NK.mk 27 yy3.sl 0 3 yy3) ws none),Slot.live (Row.nest (NK.mk 27 yy3.sl 0 3 yy3) ((colsF f n W).set (0+k.toNat) (List.take (List.length yy0) yy0)) none)]))∧(decide (k< (↑n:Int))=false→SameK (KK n101 0) (KK n101 0)∧G 0 (stOf 112 [1,2,3,8,9,10] [D.sl false false (yy3.prod (Ty.bool.prod yy3.sl)) S,D.sl false false (Ty.int .u64) (Mi m),D.ptr 0 0 0,D.own 1 0 nx.length none,D.own 2 0 ws.length none,D.v (Value.int .i64 (IntKind.i64.wrap (s+(1:Int))))] [Slot.live yy5,Slot.live (Row.data 22 (Ty.int .u64) (Mi nx)),Slot.live (Row.nest (NK.mk 27 yy3.sl 0 3 yy3) ws none)]))
theorem e101c (g:Gr) (W:List (List Int)) (M:List Nat) (S:List Slt) (m:List Nat) (n:Nat) (f:List Int→Bool) (ws:List (List Int)) (s:Int) (F:Fine W S m) (s0:0≤s) (s1:s<S.length) (cs:List Int) (hcs:(S.getD s.toNat (0,false,[])).2.2=cs) (hn:cs.length=n) (r1:List Nat) (r2:List (List Int)) (e:List Nat) (hx:GetsK Tryd.prog Tryd.f146.results.toList [none,none] (KK n101) 0 ((.tup [.own 0 0 r1.length none,.own 1 0 r2.length none]),[],[.data 22 (.int .u64) (Mi r1),.nest kW r2 none]) 0 (stOf 112 [1,2,3,8,9,10] [slS S,slU m,.ptr 0 0 0,.own 1 0 e.length none,.own 2 0 ws.length none,.v (.int .i64 (s+1))] [.live (.box 73 [.v (.int .i64 g.h),.v (.int .i64 g.w),.sl false false .bool g.B,.sl false false .bool g.R,.sl false false .bool g.L,slW W,slU M]),.live (.data 22 (.int .u64) (Mi e)),.live (.nest kW ws none)])) (z:Nat):∀(k:Int) (nx:List Nat),0≤k→k+z=n→nx.length=m.length→Smalls nx→meetL (thereF W f) k.toNat (cs.drop k.toNat) nx=e→GetsK Tryd.prog Tryd.f146.results.toList [none,none] (KK n101) 0 ((.tup [.own 0 0 r1.length none,.own 1 0 r2.length none]),[],[.data 22 (.int .u64) (Mi r1),.nest kW r2 none]) 3 (stOf 112 [1,2,3,8,9,10,12,15] [slS S,slU m,.ptr 0 0 0,.own 1 0 nx.length none,.own 2 0 ws.length none,.v (.int .i64 s),.own 3 0 n (some n),.v (.int .i64 k)] [.live (.box 73 [.v (.int .i64 g.h),.v (.int .i64 g.w),.sl false false .bool g.B,.sl false false .bool g.R,.sl false false .bool g.L,slW W,slU M]),.live (.data 22 (.int .u64) (Mi nx)),.live (.nest kW ws none),.live (.nest kW (colsF f n W) none)]):=by
 have hs1:IntKind.i64.wrap (s+1)=s+1:=by have:=F.slots;exact wrG (by omega) (by omega)
 have hc1:=F.cells _ (getD_in (d:=(0,false,[])) (k:=s.toNat) (by omega))
 rw[hcs] at hc1
 have hl:=cols_len f n W
 have hsl:=F.slots
 have hfw:=F.words
 induction z with
 |zero=>
  intro k nx k0 hk hnl hsm he
  rw[List.drop_eq_nil_of_le (by omega)] at he
  have he:nx=e:=he
  subst he
  refine gets_vc (flag [2000032,2000067,2000081,2000106] spNa) (fun k=> [[1,2,3,8,9,10],[1,2,3,8,9,10,11,12,13],[1,2,3,8,9,10,11,12,13,14],[1,2,3,8,9,10,12,15]].getD k []) (fun k=>if k=99 then [⟨4000007,27,WT⟩] else if k=0∨k=3 then [⟨4000009,27,WT⟩] else [⟨4000009,27,WT⟩,⟨11,3,.int .i64⟩]) 400 (.fork (.hd 3) (.hd 0)) (V:=vq20 g W M S m n f ws s k nx) hmG (fun G R=>by kernel_rfl) ?_
  unfold vq20
  try dsimp only
  simp only[hs1]
  simp (disch:=omega) only[oo,oop,ne_eq,Ty.dflt,reduceCtorEq]
  repeat' (first|with_reducible refine And.intro ?_ ?_|intro _)
  all_goals first|rfl|omega|assumption|trivial|exact room3 (by omega)|exact room46 (by omega)|(exfalso;simp_all;done)|(exfalso;omega)|skip
 |succ z ih=>
  intro k nx k0 hk hnl hsm he
  have hd:=drop_at (xs:=cs) (i:=k) (0:Int) k0 (by omega)
  rw[hd] at he
  simp only[meetL] at he
  have hk1:IntKind.i64.wrap (k+1)=k+1:=by have:=hc1.1;exact wrG (by omega) (by omega)
  have hc2:=hc1.2 _ (getD_in (d:=0) (k:=k.toNat) (l:=cs) (by omega))
  obtain⟨c,hcc⟩:∃c,cs.getD k.toNat 0=c:=⟨_,rfl⟩
  rw[hcc] at he hc2
  have hg:=cols_get f (n:=n) (j:=k.toNat) W (by omega)
  have hlen:(((W.filter f).map (·.getD k.toNat 0)).length:Int)≤9223372036854775807:=by
   rw[List.length_map]
   have:=List.length_filter_le f W
   omega
  have c1:=d117 _ hlen
  have c2:=d127 (nx.getD c.toNat 0) (thereF W f k.toNat) (hsm.at _) (of_lt _ _ (by decide))
  have hx2:=ih (k+1) (nx.set c.toNat (nx.getD c.toNat 0&&&thereF W f k.toNat)) (by omega) (by omega) (by rw[List.length_set];exact hnl) (by
   intro y hy
   rcases List.mem_or_eq_of_mem_set hy with hy|hy
   ·exact hsm y hy
   ·rw[hy];exact and_lt (hsm.at _)) (by rw[show(k+1).toNat=k.toNat+1 by omega] at he⊢;exact he)
  rw[List.length_set] at hx2
  refine gets_vc (flag [2000032,2000067,2000081,2000106] spNa) (fun k=> [[1,2,3,8,9,10],[1,2,3,8,9,10,11,12,13],[1,2,3,8,9,10,11,12,13,14],[1,2,3,8,9,10,12,15]].getD k []) (fun k=>if k=99 then [⟨4000007,27,WT⟩] else if k=0∨k=3 then [⟨4000009,27,WT⟩] else [⟨4000009,27,WT⟩,⟨11,3,.int .i64⟩]) 400 (.fork (.hd 3) (.hd 0)) (V:=vq20 g W M S m n f ws s k nx) hmG (fun G R=>by kernel_rfl) ?_
  unfold vq20
  try dsimp only
  simp only[Ty.dflt,hk1,hcs,hcc,take_len,List.drop_zero,List.take_length,Mi_getD,Mi_len,Nt_Mi,Int.toNat_natCast,Mi_set,Nat.zero_add,set_same,List.length_append,List.length_cons,List.length_nil,List.length_set,List.take_zero,List.nil_append,hg,show ofN ((W.filter f).map (·.getD k.toNat 0))=thereF W f k.toNat from rfl]
  rw[show∀v,(colsF f n W).set k.toNat v=(colsF f n W).set k.toNat v from fun _=>rfl]
  have hset:(colsF f n W).set k.toNat ((W.filter f).map (·.getD k.toNat 0))=colsF f n W:=by rw[←hg];exact set_same [] _ _
  simp only[hset]
  simp (disch:=omega) only[oo,oop,ne_eq,Ty.dflt,reduceCtorEq]
  repeat' (first|with_reducible refine And.intro ?_ ?_|intro _)
  all_goals first|rfl|omega|assumption|trivial|exact room3 (by omega)|exact room46 (by omega)|(exfalso;simp_all;done)|(exfalso;omega)|skip
theorem takeSn {α:Type} (l:List α) (x:α):(l++[x]).take (l.length+1)=l++[x]:=List.take_of_length_le (by simp)
theorem take_one {α:Type} (x:α):[x].take 1=[x]:=rfl
def vq21 (g:Gr) (W:List (List Int)) (M:List Nat) (S:List Slt) (m:List Nat) (nx:List Nat) (ws:List (List Int)) (s:Int) (so:List Int) (n:Nat) (th0:List (List Int)) (i:Int) (w:List Int) (k:Int) (G:Nat→St→Prop) (R:D×List (Option Row)×List Row→Prop):Prop:=let yy0:=(Ty.int .i64);let yy1:=(Row.box 73 [D.v (Value.int .i64 g.h),D.v (Value.int .i64 g.w),D.sl false false Ty.bool g.B,D.sl false false Ty.bool g.R,D.sl false false Ty.bool g.L,D.sl false false yy0.sl W,D.sl false false (Ty.int .u64) (Mi M)]);let yy2:=((addT w k.toNat th0).getD (0+k.toNat) (NK.mk 27 yy0.sl 0 3 yy0).t.dflt);(decide (k< (↑n:Int))=true→(0:Int)≤k∧k< (↑n:Int)∧0+k.toNat< (addT w k.toNat th0).length∧(0:Int)≤i∧i< (↑W.length:Int)∧(0:Int)≤k∧k< (↑(List.length (W.getD i.toNat yy0.sl.dflt)):Int)∧roomy Tryd.prog 3 (List.length yy2+1)∧(0:Int)≤k∧k< (↑n:Int)∧0+k.toNat< (addT w k.toNat th0).length∧0+k.toNat=0+k.toNat∧SameK (KK n101 2) (KK n101 2)∧G 2 (stOf 112 [1,2,3,8,9,10,11,12,13,14] [D.sl false false (yy0.prod (Ty.bool.prod yy0.sl)) S,D.sl false false (Ty.int .u64) (Mi m),D.ptr 0 0 0,D.own 1 0 nx.length none,D.own 2 0 ws.length none,D.v (Value.int .i64 s),D.own 3 0 so.length none,D.own 4 0 n (some n),D.v (Value.int .i64 i),D.v (Value.int .i64 (IntKind.i64.wrap (k+(1:Int))))] [Slot.live yy1,Slot.live (Row.data 22 (Ty.int .u64) (Mi nx)),Slot.live (Row.nest (NK.mk 27 yy0.sl 0 3 yy0) ws none),Slot.live (Row.data 3 yy0 so),Slot.live (Row.nest (NK.mk 27 yy0.sl 0 3 yy0) ((addT w k.toNat th0).set (0+k.toNat) (List.take (List.length yy2+1) (List.take (List.length yy2) (List.drop 0 yy2)++List.take 1 (List.drop 0 [List.getD (W.getD i.toNat yy0.sl.dflt) k.toNat yy0.dflt])))) none)]))∧(decide (k< (↑n:Int))=false→SameK (KK n101 1) (KK n101 1)∧G 1 (stOf 112 [1,2,3,8,9,10,11,12,13] [D.sl false false (yy0.prod (Ty.bool.prod yy0.sl)) S,D.sl false false (Ty.int .u64) (Mi m),D.ptr 0 0 0,D.own 1 0 nx.length none,D.own 2 0 ws.length none,D.v (Value.int .i64 s),D.own 3 0 so.length none,D.own 4 0 n (some n),D.v (Value.int .i64 (IntKind.i64.wrap (i+(1:Int))))] [Slot.live yy1,Slot.live (Row.data 22 (Ty.int .u64) (Mi nx)),Slot.live (Row.nest (NK.mk 27 yy0.sl 0 3 yy0) ws none),Slot.live (Row.data 3 yy0 so),Slot.live (Row.nest (NK.mk 27 yy0.sl 0 3 yy0) (addT w k.toNat th0) none)]))
theorem e101k (g:Gr) (W:List (List Int)) (M:List Nat) (S:List Slt) (m:List Nat) (nx:List Nat) (ws:List (List Int)) (s:Int) (F:Fine W S m) (s0:0≤s) (s1:s<S.length) (so:List Int) (n:Nat) (th0:List (List Int)) (i:Int) (i0:0≤i) (i1:i<W.length) (hth:th0.length=n) (hb:∀j,(th0.getD j []).length≤1000) (w:List Int) (hw:W.getD i.toNat []=w) (hwl:w.length=n) (r1:List Nat) (r2:List (List Int)) (hx:GetsK Tryd.prog Tryd.f146.results.toList [none,none] (KK n101) 0 ((.tup [.own 0 0 r1.length none,.own 1 0 r2.length none]),[],[.data 22 (.int .u64) (Mi r1),.nest kW r2 none]) 1 (stOf 112 [1,2,3,8,9,10,11,12,13] [slS S,slU m,.ptr 0 0 0,.own 1 0 nx.length none,.own 2 0 ws.length none,.v (.int .i64 s),.own 3 0 so.length none,.own 4 0 n (some n),.v (.int .i64 (i+1))] [.live (.box 73 [.v (.int .i64 g.h),.v (.int .i64 g.w),.sl false false .bool g.B,.sl false false .bool g.R,.sl false false .bool g.L,slW W,slU M]),.live (.data 22 (.int .u64) (Mi nx)),.live (.nest kW ws none),.live (.data 3 (.int .i64) so),.live (.nest kW (addT w n th0) none)])) (z:Nat):∀(k:Int),0≤k→k+z=n→GetsK Tryd.prog Tryd.f146.results.toList [none,none] (KK n101) 0 ((.tup [.own 0 0 r1.length none,.own 1 0 r2.length none]),[],[.data 22 (.int .u64) (Mi r1),.nest kW r2 none]) 2 (stOf 112 [1,2,3,8,9,10,11,12,13,14] [slS S,slU m,.ptr 0 0 0,.own 1 0 nx.length none,.own 2 0 ws.length none,.v (.int .i64 s),.own 3 0 so.length none,.own 4 0 n (some n),.v (.int .i64 i),.v (.int .i64 k)] [.live (.box 73 [.v (.int .i64 g.h),.v (.int .i64 g.w),.sl false false .bool g.B,.sl false false .bool g.R,.sl false false .bool g.L,slW W,slU M]),.live (.data 22 (.int .u64) (Mi nx)),.live (.nest kW ws none),.live (.data 3 (.int .i64) so),.live (.nest kW (addT w k.toNat th0) none)]):=by
 have hi1:IntKind.i64.wrap (i+1)=i+1:=by have:=F.words;exact wrG (by omega) (by omega)
 have hn:n≤32:=by
  rw[←hwl,←hw]
  exact F.long _ (getD_in (by omega))
 induction z with
 |zero=>
  intro k k0 hk
  have hkn:addT w n th0=addT w k.toNat th0:=by rw[show k.toNat=n by omega]
  rw[hkn] at hx
  refine gets_vc (flag [2000032,2000067,2000081,2000106] spNa) (fun k=> [[1,2,3,8,9,10],[1,2,3,8,9,10,11,12,13],[1,2,3,8,9,10,11,12,13,14],[1,2,3,8,9,10,12,15]].getD k []) (fun k=>if k=99 then [⟨4000007,27,WT⟩] else if k=0∨k=3 then [⟨4000009,27,WT⟩] else [⟨4000009,27,WT⟩,⟨11,3,.int .i64⟩]) 400 (.fork (.hd 2) (.hd 1)) (V:=vq21 g W M S m nx ws s so n th0 i w k) hmG (fun G R=>by kernel_rfl) ?_
  unfold vq21
  try dsimp only
  simp only[hi1]
  simp (disch:=omega) only[oo,oop,ne_eq,Ty.dflt,reduceCtorEq]
  repeat' (first|with_reducible refine And.intro ?_ ?_|intro _)
  all_goals first|rfl|omega|assumption|trivial|exact room3 (by omega)|exact room46 (by omega)|(exfalso;simp_all;done)|(exfalso;omega)|skip
 |succ z ih=>
  intro k k0 hk
  have hk1:IntKind.i64.wrap (k+1)=k+1:=wrG (by omega) (by omega)
  have hx2:=ih (k+1) (by omega) (by omega)
  have he:(addT w k.toNat th0).set k.toNat ((addT w k.toNat th0).getD k.toNat []++[w.getD k.toNat 0])=addT w (k+1).toNat th0:=by
   rw[show(k+1).toNat=k.toNat+1 by omega]
   rfl
  have hr:((addT w k.toNat th0).getD k.toNat []).length≤1000:=by
   rw[addT_get,if_neg (by omega)]
   exact hb _
  have hl:=addT_len w k.toNat th0
  refine gets_vc (flag [2000032,2000067,2000081,2000106] spNa) (fun k=> [[1,2,3,8,9,10],[1,2,3,8,9,10,11,12,13],[1,2,3,8,9,10,11,12,13,14],[1,2,3,8,9,10,12,15]].getD k []) (fun k=>if k=99 then [⟨4000007,27,WT⟩] else if k=0∨k=3 then [⟨4000009,27,WT⟩] else [⟨4000009,27,WT⟩,⟨11,3,.int .i64⟩]) 400 (.fork (.hd 2) (.hd 1)) (V:=vq21 g W M S m nx ws s so n th0 i w k) hmG (fun G R=>by kernel_rfl) ?_
  unfold vq21
  try dsimp only
  simp only[Ty.dflt,hk1,hw,take_len,List.drop_zero,List.take_length,Mi_getD,Mi_len,Nt_Mi,Int.toNat_natCast,Mi_set,Nat.zero_add,set_same,List.length_append,List.length_cons,List.length_nil,List.length_set,List.take_zero,List.nil_append,takeSn,take_one,he]
  simp (disch:=omega) only[oo,oop,ne_eq,Ty.dflt,reduceCtorEq]
  repeat' (first|with_reducible refine And.intro ?_ ?_|intro _)
  all_goals first|rfl|omega|assumption|trivial|exact room3 (by omega)|exact room46 (by omega)|(exfalso;simp_all;done)|(exfalso;omega)|skip
theorem e101w (g:Gr) (W:List (List Int)) (M:List Nat) (S:List Slt) (m:List Nat) (nx:List Nat) (ws:List (List Int)) (s:Int) (F:Fine W S m) (s0:0≤s) (s1:s<S.length) (cs:List Int) (hcs:(S.getD s.toNat (0,false,[])).2.2=cs) (n:Nat) (hn:cs.length=n) (f:List Int→Bool) (hf:f=fitL m cs) (hws:ws.length≤1000) (r1:List Nat) (r2:List (List Int)) (hx:GetsK Tryd.prog Tryd.f146.results.toList [none,none] (KK n101) 0 ((.tup [.own 0 0 r1.length none,.own 1 0 r2.length none]),[],[.data 22 (.int .u64) (Mi r1),.nest kW r2 none]) 3 (stOf 112 [1,2,3,8,9,10,12,15] [slS S,slU m,.ptr 0 0 0,.own 1 0 nx.length none,.own 2 0 (ws++[idxF f 0 W]).length none,.v (.int .i64 s),.own 3 0 n (some n),.v (.int .i64 0)] [.live (.box 73 [.v (.int .i64 g.h),.v (.int .i64 g.w),.sl false false .bool g.B,.sl false false .bool g.R,.sl false false .bool g.L,slW W,slU M]),.live (.data 22 (.int .u64) (Mi nx)),.live (.nest kW (ws++[idxF f 0 W]) none),.live (.nest kW (colsF f n W) none)])) (z:Nat):∀(i:Int),0≤i→i+z=W.length→GetsK Tryd.prog Tryd.f146.results.toList [none,none] (KK n101) 0 ((.tup [.own 0 0 r1.length none,.own 1 0 r2.length none]),[],[.data 22 (.int .u64) (Mi r1),.nest kW r2 none]) 1 (stOf 112 [1,2,3,8,9,10,11,12,13] [slS S,slU m,.ptr 0 0 0,.own 1 0 nx.length none,.own 2 0 ws.length none,.v (.int .i64 s),.own 3 0 (idxF f 0 (W.take i.toNat)).length none,.own 4 0 n (some n),.v (.int .i64 i)] [.live (.box 73 [.v (.int .i64 g.h),.v (.int .i64 g.w),.sl false false .bool g.B,.sl false false .bool g.R,.sl false false .bool g.L,slW W,slU M]),.live (.data 22 (.int .u64) (Mi nx)),.live (.nest kW ws none),.live (.data 3 (.int .i64) (idxF f 0 (W.take i.toNat))),.live (.nest kW (colsF f n (W.take i.toNat)) none)]):=by
 have hc1:=F.cells _ (getD_in (d:=(0,false,[])) (k:=s.toNat) (by omega))
 rw[hcs] at hc1
 have hfw:=F.words
 induction z with
 |zero=>
  intro i i0 hi
  rw[List.take_of_length_le (by omega)]
  rw[List.length_append,List.length_cons,List.length_nil] at hx
  refine gets_vc (flag [2000032,2000067,2000081,2000106] spNa) (fun k=> [[1,2,3,8,9,10],[1,2,3,8,9,10,11,12,13],[1,2,3,8,9,10,11,12,13,14],[1,2,3,8,9,10,12,15]].getD k []) (fun k=>if k=99 then [⟨4000007,27,WT⟩] else if k=0∨k=3 then [⟨4000009,27,WT⟩] else [⟨4000009,27,WT⟩,⟨11,3,.int .i64⟩]) 400 (.fork (.fork (.hd 1) (.hd 2)) (.hd 3)) (V:=fun G R=>let yy0:=(S.getD s.toNat ((Ty.int .i64).prod (Ty.bool.prod (Ty.int .i64).sl)).dflt);let yy1:=(Row.box 73 [D.v (Value.int .i64 g.h),D.v (Value.int .i64 g.w),D.sl false false Ty.bool g.B,D.sl false false Ty.bool g.R,D.sl false false Ty.bool g.L,D.sl false false (Ty.int .i64).sl W,D.sl false false (Ty.int .u64) (Mi M)]);let yy2:=(Ty.int .i64);let yy3:=(idxF f (0:Int) W);let yy4:=(NK.mk 27 yy2.sl 0 3 yy2);let yy5:=(Ty.int .u64);let yy6:=(W.getD i.toNat yy2.sl.dflt);(decide (i< (↑W.length:Int))=true→(0:Int)≤s∧s< (↑S.length:Int)∧(0:Int)≤i∧i< (↑W.length:Int)∧Con Tryd.prog 156 [] [D.sl false false yy5 (Mi (Nt (Mi m))),D.agg [D.v (Value.int .i64 yy0.fst),D.v (Value.bool yy0.snd.fst),D.sl false false yy2 yy0.snd.snd],D.sl false false yy2 yy6] (D.v (Value.bool (fitL (Nt (Mi m)) yy0.snd.snd yy6))) [] []∧Mi m=Mi (Nt (Mi m))∧Value.int .i64 yy0.fst=Value.int .i64 yy0.fst∧Value.bool yy0.snd.fst=Value.bool yy0.snd.fst∧yy0.snd.snd=yy0.snd.snd∧W.getD i.toNat yy2.sl.dflt=W.getD i.toNat yy2.sl.dflt∧((!fitL (Nt (Mi m)) yy0.snd.snd yy6)=true→SameK (KK n101 1) (KK n101 1)∧G 1 (stOf 112 [1,2,3,8,9,10,11,12,13] [D.sl false false (yy2.prod (Ty.bool.prod yy2.sl)) S,D.sl false false yy5 (Mi m),D.ptr 0 0 0,D.own 1 0 nx.length none,D.own 2 0 ws.length none,D.v (Value.int .i64 s),D.own 3 0 yy3.length none,D.own 4 0 n (some n),D.v (Value.int .i64 (IntKind.i64.wrap (i+(1:Int))))] [Slot.live yy1,Slot.live (Row.data 22 yy5 (Mi nx)),Slot.live (Row.nest yy4 ws none),Slot.live (Row.data 3 yy2 yy3),Slot.live (Row.nest yy4 (colsF f n W) none)]))∧((!fitL (Nt (Mi m)) yy0.snd.snd yy6)=false→roomy Tryd.prog 3 (yy3.length+1)∧SameK (KK n101 2) (KK n101 2)∧G 2 (stOf 112 [1,2,3,8,9,10,11,12,13,14] [D.sl false false (yy2.prod (Ty.bool.prod yy2.sl)) S,D.sl false false yy5 (Mi m),D.ptr 0 0 0,D.own 1 0 nx.length none,D.own 2 0 ws.length none,D.v (Value.int .i64 s),D.own 3 0 (yy3.length+1) none,D.own 4 0 n (some n),D.v (Value.int .i64 i),D.v (Value.int .i64 (0:Int))] [Slot.live yy1,Slot.live (Row.data 22 yy5 (Mi nx)),Slot.live (Row.nest yy4 ws none),Slot.live (Row.data 3 yy2 (List.take yy3.length (List.drop 0 yy3)++List.take 1 (List.drop 0 [i]))),Slot.live (Row.nest yy4 (colsF f n W) none)])))∧(decide (i< (↑W.length:Int))=false→1=1∧roomy Tryd.prog 27 (ws.length+1)∧SameK (KK n101 3) (KK n101 3)∧G 3 (stOf 112 [1,2,3,8,9,10,12,15] [D.sl false false (yy2.prod (Ty.bool.prod yy2.sl)) S,D.sl false false yy5 (Mi m),D.ptr 0 0 0,D.own 1 0 nx.length none,D.own 2 0 (ws.length+1) none,D.v (Value.int .i64 s),D.own 3 0 n (some n),D.v (Value.int .i64 (0:Int))] [Slot.live yy1,Slot.live (Row.data 22 yy5 (Mi nx)),Slot.live (Row.nest yy4 (List.take ws.length ws++[List.take yy3.length (List.drop 0 yy3)]) none),Slot.live (Row.nest yy4 (colsF f n W) none)]))) hmG (fun G R=>by kernel_rfl) ?_
  try dsimp only
  simp only[take_len,List.drop_zero,List.take_length,Mi_getD,Mi_len,Nt_Mi,Int.toNat_natCast,Mi_set,Nat.zero_add,set_same,List.length_append,List.length_cons,List.length_nil,List.length_set,List.take_zero,List.nil_append]
  simp (disch:=omega) only[oo,oop,ne_eq,Ty.dflt,reduceCtorEq]
  repeat' (first|with_reducible refine And.intro ?_ ?_|intro _)
  all_goals first|rfl|omega|assumption|trivial|exact room3 (by omega)|exact room46 (by omega)|(exfalso;simp_all;done)|(exfalso;omega)|skip
 |succ z ih=>
  intro i i0 hi
  have hi1:IntKind.i64.wrap (i+1)=i+1:=wrG (by omega) (by omega)
  have ht:=take_succ_at ([]:List Int) W i0 (by omega)
  obtain⟨w,hw⟩:∃w,W.getD i.toNat []=w:=⟨_,rfl⟩
  have hwl:w.length≤32:=by rw[←hw];exact F.long _ (getD_in (by omega))
  rw[hw] at ht
  have htl:(W.take i.toNat).length=i.toNat:=by rw[List.length_take];omega
  have hil:(idxF f 0 (W.take i.toNat)).length≤i.toNat:=Nat.le_trans (idx_len f _ 0) (Nat.le_of_eq htl)
  have hx2:=ih (i+1) (by omega) (by omega)
  rw[ht,idx_snoc,htl,show(0:Int)+(i.toNat:Int)=i by omega] at hx2
  have c1:=d126 m (S.getD s.toNat (0,false,[])).1 (S.getD s.toNat (0,false,[])).2.1 cs w (by omega) F.small hc1.2
  obtain⟨V,hV⟩:∃V,W.take i.toNat=V:=⟨_,rfl⟩
  rw[hV] at hx2 hil htl⊢
  have hcol:∀j,((colsF f n V).getD j []).length≤1000:=by
   intro j
   rcases Nat.lt_or_ge j n with h|h
   ·rw[cols_get f V h,List.length_map]
    have:=List.length_filter_le f V
    omega
   ·rw[List.getD_eq_getElem?_getD,List.getElem?_eq_none (by rw[cols_len];exact h)]
    simp
  refine gets_vc (flag [2000032,2000067,2000081,2000106] spNa) (fun k=> [[1,2,3,8,9,10],[1,2,3,8,9,10,11,12,13],[1,2,3,8,9,10,11,12,13,14],[1,2,3,8,9,10,12,15]].getD k []) (fun k=>if k=99 then [⟨4000007,27,WT⟩] else if k=0∨k=3 then [⟨4000009,27,WT⟩] else [⟨4000009,27,WT⟩,⟨11,3,.int .i64⟩]) 400 (.fork (.fork (.hd 1) (.hd 2)) (.hd 3)) (V:=fun G R=>let yy0:=(S.getD s.toNat ((Ty.int .i64).prod (Ty.bool.prod (Ty.int .i64).sl)).dflt);let yy1:=(Row.box 73 [D.v (Value.int .i64 g.h),D.v (Value.int .i64 g.w),D.sl false false Ty.bool g.B,D.sl false false Ty.bool g.R,D.sl false false Ty.bool g.L,D.sl false false (Ty.int .i64).sl W,D.sl false false (Ty.int .u64) (Mi M)]);let yy2:=(Ty.int .i64);let yy3:=(idxF f (0:Int) V);let yy4:=(NK.mk 27 yy2.sl 0 3 yy2);let yy5:=(Ty.int .u64);let yy6:=(W.getD i.toNat yy2.sl.dflt);(decide (i< (↑W.length:Int))=true→(0:Int)≤s∧s< (↑S.length:Int)∧(0:Int)≤i∧i< (↑W.length:Int)∧Con Tryd.prog 156 [] [D.sl false false yy5 (Mi (Nt (Mi m))),D.agg [D.v (Value.int .i64 yy0.fst),D.v (Value.bool yy0.snd.fst),D.sl false false yy2 yy0.snd.snd],D.sl false false yy2 yy6] (D.v (Value.bool (fitL (Nt (Mi m)) yy0.snd.snd yy6))) [] []∧Mi m=Mi (Nt (Mi m))∧Value.int .i64 yy0.fst=Value.int .i64 yy0.fst∧Value.bool yy0.snd.fst=Value.bool yy0.snd.fst∧yy0.snd.snd=yy0.snd.snd∧W.getD i.toNat yy2.sl.dflt=W.getD i.toNat yy2.sl.dflt∧((!fitL (Nt (Mi m)) yy0.snd.snd yy6)=true→SameK (KK n101 1) (KK n101 1)∧G 1 (stOf 112 [1,2,3,8,9,10,11,12,13] [D.sl false false (yy2.prod (Ty.bool.prod yy2.sl)) S,D.sl false false yy5 (Mi m),D.ptr 0 0 0,D.own 1 0 nx.length none,D.own 2 0 ws.length none,D.v (Value.int .i64 s),D.own 3 0 yy3.length none,D.own 4 0 n (some n),D.v (Value.int .i64 (IntKind.i64.wrap (i+(1:Int))))] [Slot.live yy1,Slot.live (Row.data 22 yy5 (Mi nx)),Slot.live (Row.nest yy4 ws none),Slot.live (Row.data 3 yy2 yy3),Slot.live (Row.nest yy4 (colsF f n V) none)]))∧((!fitL (Nt (Mi m)) yy0.snd.snd yy6)=false→roomy Tryd.prog 3 (yy3.length+1)∧SameK (KK n101 2) (KK n101 2)∧G 2 (stOf 112 [1,2,3,8,9,10,11,12,13,14] [D.sl false false (yy2.prod (Ty.bool.prod yy2.sl)) S,D.sl false false yy5 (Mi m),D.ptr 0 0 0,D.own 1 0 nx.length none,D.own 2 0 ws.length none,D.v (Value.int .i64 s),D.own 3 0 (yy3.length+1) none,D.own 4 0 n (some n),D.v (Value.int .i64 i),D.v (Value.int .i64 (0:Int))] [Slot.live yy1,Slot.live (Row.data 22 yy5 (Mi nx)),Slot.live (Row.nest yy4 ws none),Slot.live (Row.data 3 yy2 (List.take yy3.length (List.drop 0 yy3)++List.take 1 (List.drop 0 [i]))),Slot.live (Row.nest yy4 (colsF f n V) none)])))∧(decide (i< (↑W.length:Int))=false→1=1∧roomy Tryd.prog 27 (ws.length+1)∧SameK (KK n101 3) (KK n101 3)∧G 3 (stOf 112 [1,2,3,8,9,10,12,15] [D.sl false false (yy2.prod (Ty.bool.prod yy2.sl)) S,D.sl false false yy5 (Mi m),D.ptr 0 0 0,D.own 1 0 nx.length none,D.own 2 0 (ws.length+1) none,D.v (Value.int .i64 s),D.own 3 0 n (some n),D.v (Value.int .i64 (0:Int))] [Slot.live yy1,Slot.live (Row.data 22 yy5 (Mi nx)),Slot.live (Row.nest yy4 (List.take ws.length ws++[List.take yy3.length (List.drop 0 yy3)]) none),Slot.live (Row.nest yy4 (colsF f n V) none)]))) hmG (fun G R=>by kernel_rfl) ?_
  try dsimp only
  simp only[Ty.dflt,hi1,hw,hcs,take_len,List.drop_zero,List.take_length,Mi_getD,Mi_len,Nt_Mi,Int.toNat_natCast,Mi_set,Nat.zero_add,set_same,List.length_append,List.length_cons,List.length_nil,List.length_set,List.take_zero,List.nil_append,takeSn,take_one,←hf]
  rw[←hf] at c1
  rcases Bool.eq_false_or_eq_true (f w) with h|h
  ·have hle:w.length=n:=by
    rw[hf] at h
    rw[←hn]
    exact((fit_iff m cs w).1 h).1
   rw[h,if_pos rfl,←cols_yes h] at hx2
   rw[h] at c1
   have hx3:=e101k g W M S m nx ws s F s0 s1 (idxF f 0 V++[i]) n (colsF f n V) i i0 (by omega) (cols_len f n V) hcol w hw hle r1 r2 hx2 n 0 (by omega) (by omega)
   rw[List.length_append,List.length_cons,List.length_nil] at hx3
   simp only[h]
   simp (disch:=omega) only[oo,oop,ne_eq,Ty.dflt,reduceCtorEq]
   repeat' (first|with_reducible refine And.intro ?_ ?_|intro _)
   all_goals first|rfl|omega|assumption|trivial|exact room3 (by omega)|exact room46 (by omega)|(exfalso;simp_all;done)|(exfalso;omega)|skip
  ·rw[h,if_neg (by simp),List.append_nil,cols_no h] at hx2
   rw[h] at c1
   simp only[h]
   simp (disch:=omega) only[oo,oop,ne_eq,Ty.dflt,reduceCtorEq]
   repeat' (first|with_reducible refine And.intro ?_ ?_|intro _)
   all_goals first|rfl|omega|assumption|trivial|exact room3 (by omega)|exact room46 (by omega)|(exfalso;simp_all;done)|(exfalso;omega)|skip
theorem words_snoc (W:List (List Int)) (S:List Slt) (s:Slt) (m:List Nat):wordsF W (S++[s]) m=wordsF W S m++[idxF (fitL m s.2.2) 0 W]:=by simp[wordsF]
def vq22 (g:Gr) (W:List (List Int)) (M:List Nat) (S:List Slt) (m:List Nat) (s:Int) (nx:List Nat) (ws:List (List Int)) (G:Nat→St→Prop) (R:D×List (Option Row)×List Row→Prop):Prop:=let yy0:=(↑(List.length (S.getD s.toNat ((Ty.int .i64).prod (Ty.bool.prod (Ty.int .i64).sl)).dflt).snd.snd):Int);let yy1:=(Ty.int .i64);(decide (s< (↑S.length:Int))=true→(0:Int)≤s∧s< (↑S.length:Int)∧(0:Int)≤yy0∧yy0≤yy0∧yy0≤(9223372036854775807:Int)∧yy0.toNat*24≤281474976710656∧SameK (KK n101 1) (KK n101 1)∧G 1 (stOf 112 [1,2,3,8,9,10,11,12,13] [D.sl false false (yy1.prod (Ty.bool.prod yy1.sl)) S,D.sl false false (Ty.int .u64) (Mi m),D.ptr 0 0 0,D.own 1 0 nx.length none,D.own 2 0 ws.length none,D.v (Value.int .i64 s),D.own 3 0 0 none,D.own 4 0 yy0.toNat (some yy0.toNat),D.v (Value.int .i64 (0:Int))] [Slot.live (Row.box 73 [D.v (Value.int .i64 g.h),D.v (Value.int .i64 g.w),D.sl false false Ty.bool g.B,D.sl false false Ty.bool g.R,D.sl false false Ty.bool g.L,D.sl false false yy1.sl W,D.sl false false (Ty.int .u64) (Mi M)]),Slot.live (Row.data 22 (Ty.int .u64) (Mi nx)),Slot.live (Row.nest (NK.mk 27 yy1.sl 0 3 yy1) ws none),Slot.live (Row.data 3 yy1 []),Slot.live (Row.nest (NK.mk 27 yy1.sl 0 3 yy1) (List.replicate yy0.toNat []) none)]))∧(decide (s< (↑S.length:Int))=false→R (D.tup [D.own 0 0 nx.length none,D.own 1 0 ws.length none],[],[Row.data 22 (Ty.int .u64) (Mi nx),Row.nest (NK.mk 27 yy1.sl 0 3 yy1) ws none]))
theorem e101 (g:Gr) (W:List (List Int)) (M:List Nat) (S:List Slt) (m:List Nat) (F:Fine W S m) (r1:List Nat) (r2:List (List Int)) (h2:wordsF W S m=r2) (z:Nat):∀(s:Int) (nx:List Nat) (ws:List (List Int)),0≤s→s+z=S.length→nx.length=m.length→Smalls nx→onceFrom W m (S.drop s.toNat) nx=r1→ws=wordsF W (S.take s.toNat) m→GetsK Tryd.prog Tryd.f146.results.toList [none,none] (KK n101) 0 ((.tup [.own 0 0 r1.length none,.own 1 0 r2.length none]),[],[.data 22 (.int .u64) (Mi r1),.nest kW r2 none]) 0 (stOf 112 [1,2,3,8,9,10] [slS S,slU m,.ptr 0 0 0,.own 1 0 nx.length none,.own 2 0 ws.length none,.v (.int .i64 s)] [.live (.box 73 [.v (.int .i64 g.h),.v (.int .i64 g.w),.sl false false .bool g.B,.sl false false .bool g.R,.sl false false .bool g.L,slW W,slU M]),.live (.data 22 (.int .u64) (Mi nx)),.live (.nest kW ws none)]):=by
 have hsl:=F.slots
 induction z with
 |zero=>
  intro s nx ws s0 hs hnl hsm h1 hws
  rw[List.drop_eq_nil_of_le (by omega)] at h1
  rw[List.take_of_length_le (by omega),h2] at hws
  have h1:nx=r1:=h1
  subst h1;subst hws
  refine gets_vc (flag [2000032,2000067,2000081,2000106] spNa) (fun k=> [[1,2,3,8,9,10],[1,2,3,8,9,10,11,12,13],[1,2,3,8,9,10,11,12,13,14],[1,2,3,8,9,10,12,15]].getD k []) (fun k=>if k=99 then [⟨4000007,27,WT⟩] else if k=0∨k=3 then [⟨4000009,27,WT⟩] else [⟨4000009,27,WT⟩,⟨11,3,.int .i64⟩]) 400 (.fork (.hd 1) .stop) (V:=vq22 g W M S m s nx ws) hmG (fun G R=>by kernel_rfl) ?_
  unfold vq22
  try dsimp only
  simp (disch:=omega) only[oo,oop,ne_eq,Ty.dflt,reduceCtorEq]
  repeat' (first|with_reducible refine And.intro ?_ ?_|intro _)
  all_goals first|rfl|omega|assumption|trivial|exact room3 (by omega)|exact room46 (by omega)|(exfalso;simp_all;done)|(exfalso;omega)|skip
 |succ z ih=>
  intro s nx ws s0 hs hnl hsm h1 hws
  have hd:=drop_at (xs:=S) (i:=s) ((0,false,[]):Slt) s0 (by omega)
  have ht:=take_succ_at ((0,false,[]):Slt) S s0 (by omega)
  have hc1:=F.cells _ (getD_in (d:=(0,false,[])) (k:=s.toNat) (by omega))
  obtain⟨cs,hcs⟩:∃cs,(S.getD s.toNat (0,false,[])).2.2=cs:=⟨_,rfl⟩
  rw[hd] at h1
  simp only[onceFrom,hcs] at h1
  rw[hcs] at hc1
  have hwl:ws.length=s.toNat:=by rw[hws];simp[wordsF];omega
  have hx:=ih (s+1) (meetL (thereF W (fitL m cs)) 0 cs nx) (ws++[idxF (fitL m cs) 0 W]) (by omega) (by omega) (by rw[meet_len];exact hnl) (meet_smalls hsm) h1 (by rw[ht,words_snoc,hws,hcs])
  have hx3:=e101c g W M S m cs.length (fitL m cs) (ws++[idxF (fitL m cs) 0 W]) s F s0 (by omega) cs hcs rfl r1 r2 _ hx cs.length 0 nx (by omega) (by omega) hnl hsm rfl
  have hx1:=e101w g W M S m nx ws s F s0 (by omega) cs hcs cs.length rfl (fitL m cs) rfl (by omega) r1 r2 hx3 W.length 0 (by omega) (by omega)
  simp only[show(0:Int).toNat=0 by rfl,List.take_zero,cols_nil,idxF,List.length_nil] at hx1
  refine gets_vc (flag [2000032,2000067,2000081,2000106] spNa) (fun k=> [[1,2,3,8,9,10],[1,2,3,8,9,10,11,12,13],[1,2,3,8,9,10,11,12,13,14],[1,2,3,8,9,10,12,15]].getD k []) (fun k=>if k=99 then [⟨4000007,27,WT⟩] else if k=0∨k=3 then [⟨4000009,27,WT⟩] else [⟨4000009,27,WT⟩,⟨11,3,.int .i64⟩]) 400 (.fork (.hd 1) .stop) (V:=vq22 g W M S m s nx ws) hmG (fun G R=>by kernel_rfl) ?_
  unfold vq22
  try dsimp only
  simp only[Ty.dflt,hcs,Int.toNat_natCast]
  simp (disch:=omega) only[oo,oop,ne_eq,Ty.dflt,reduceCtorEq]
  repeat' (first|with_reducible refine And.intro ?_ ?_|intro _)
  all_goals first|rfl|omega|assumption|trivial|exact room3 (by omega)|exact room46 (by omega)|(exfalso;simp_all;done)|(exfalso;omega)|skip
theorem d101 (g:Gr) (W:List (List Int)) (M:List Nat) (S:List Slt) (m:List Nat) (F:Fine W S m):Con Tryd.prog 146 [] [.agg [.v (.int .i64 g.h),.v (.int .i64 g.w),.sl false false .bool g.B,.sl false false .bool g.R,.sl false false .bool g.L,slW W,slU M],slS S,slU m] ((.tup [.own 0 0 (onceF W S m).length none,.own 1 0 (wordsF W S m).length none])) [] [.data 22 (.int .u64) (Mi (onceF W S m)),.nest kW (wordsF W S m) none]:=by
 refine con_vc (how:=[none,none]) (c:=n101) (K:=(KK n101)) (flag [2000032,2000067,2000081,2000106] spNa) (fun k=> [[1,2,3,8,9,10],[1,2,3,8,9,10,11,12,13],[1,2,3,8,9,10,11,12,13,14],[1,2,3,8,9,10,12,15]].getD k []) (fun k=>if k=99 then [⟨4000007,27,WT⟩] else if k=0∨k=3 then [⟨4000009,27,WT⟩] else [⟨4000009,27,WT⟩,⟨11,3,.int .i64⟩]) 400 (.hd 0) (V:=fun G R=>let yy0:=(Ty.int .i64);roomy Tryd.prog 22 (0+(Mi m).length)∧SameK (KK n101 0) (KK n101 0)∧G 0 (stOf 112 [1,2,3,8,9,10] [D.sl false false (yy0.prod (Ty.bool.prod yy0.sl)) S,D.sl false false (Ty.int .u64) (Mi m),D.ptr 0 0 0,D.own 1 0 (0+(Mi m).length) none,D.own 2 0 0 none,D.v (Value.int .i64 (0:Int))] [Slot.live (Row.box 73 [D.v (Value.int .i64 g.h),D.v (Value.int .i64 g.w),D.sl false false Ty.bool g.B,D.sl false false Ty.bool g.R,D.sl false false Ty.bool g.L,D.sl false false yy0.sl W,D.sl false false (Ty.int .u64) (Mi M)]),Slot.live (Row.data 22 (Ty.int .u64) (List.take 0 (List.drop 0 [])++Mi m)),Slot.live (Row.nest (NK.mk 27 yy0.sl 0 3 yy0) [] none)])) hmG Tryd.func146 (by kernel_rfl) (by kernel_rfl) (fun G R=>by kernel_rfl) ?_
 try dsimp only
 try dsimp only
 have hx:=e101 g W M S m F _ _ rfl S.length 0 m [] (by omega) (by omega) rfl F.small rfl rfl
 simp only[Nat.zero_add,Mi_len,List.take_zero,List.drop_zero,List.nil_append,List.length_nil] at hx⊢
 have hsz:=F.size
 simp (disch:=omega) only[oo,oop,ne_eq,Ty.dflt,reduceCtorEq]
 repeat' (first|with_reducible refine And.intro ?_ ?_|intro _)
 all_goals first|rfl|omega|assumption|trivial|exact room80 (by omega)|exact hx|skip
end Go.Proofs.YtnakmganodkliaaDoorAm
namespace Go.Proofs.YtnakmganodkliaaDoorAm
open Go
theorem d65s (g:Gr):Con Tryd.prog 36 [] [g.d] (slS (slotsF g)) [] []:=con_frzS rfl (d65 g)
theorem d100s (g:Gr):Con Tryd.prog 38 [] [g.d] (slS (slotsF g)) [] []:=con_frzS rfl (d100 g)
theorem Mi_take (m:List Nat):(Mi m).take m.length=Mi m:=List.take_of_length_le (by rw[Mi_len];omega)
def markCells:List Int→List Bool→List Bool
 | [],b=>b
 |c::cs,b=>markCells cs (b.set c.toNat true)
def markSlots:List Slt→List Bool→List Bool
 | [],b=>b
 |s::ss,b=>markSlots ss (markCells s.2.2 b)
def restB (sd:List Bool) (m:List Nat):Nat→Int→Bool
 |0,_=>true
 |z+1,c=>(!sd.getD c.toNat false||m.getD c.toNat 0 !=0)&&restB sd m z (c+1)
theorem markCells_len:∀(cs:List Int) (b:List Bool),(markCells cs b).length=b.length
 | [],_=>rfl
 |c::cs,b=>by simp only[markCells];rw[markCells_len cs];simp
theorem seatCells_len (M:List Nat):∀(cs:List Int) (m:List Nat),(seatCells M cs m).length=m.length
 | [],_=>rfl
 |c::cs,m=>by simp only[seatCells];rw[seatCells_len M cs];simp
theorem seatSlots_len (M:List Nat):∀(ss:List Slt) (m:List Nat),(seatSlots M ss m).length=m.length
 | [],_=>rfl
 |s::ss,m=>by simp only[seatSlots];rw[seatSlots_len M ss,seatCells_len]
theorem seatCells_small {M:List Nat} (hM:Smalls M):∀(cs:List Int) {m:List Nat},Smalls m→Smalls (seatCells M cs m)
 | [],_,h=>h
 |c::cs,m,h=>by
  simp only[seatCells]
  refine seatCells_small hM cs ?_
  intro x hx
  rcases List.mem_or_eq_of_mem_set hx with hx|hx
  ·exact h x hx
  ·rw[hx];exact hM.at _
theorem seatSlots_small {M:List Nat} (hM:Smalls M):∀(ss:List Slt) {m:List Nat},Smalls m→Smalls (seatSlots M ss m)
 | [],_,h=>h
 |s::ss,m,h=>by
  simp only[seatSlots]
  exact seatSlots_small hM ss (seatCells_small hM _ h)
theorem mark_get:∀(cs:List Int) (b:List Bool) (j:Nat),j<b.length→(markCells cs b).getD j false=(b.getD j false||cs.any (fun c=>c.toNat==j))
 | [],b,j,_=>by simp[markCells]
 |c::cs,b,j,hj=>by
  simp only[markCells,List.any_cons]
  rw[mark_get cs _ j (by simpa using hj),getD_set_gen]
  by_cases h:c.toNat=j
  ·subst h
   rw[if_pos ⟨rfl,hj⟩]
   simp
  ·rw[if_neg (fun e=>h e.1),beq_eq_false_iff_ne.2 h,Bool.false_or]
theorem markS_get:∀(ss:List Slt) (b:List Bool) (j:Nat),j<b.length→(markSlots ss b).getD j false=(b.getD j false||ss.any (fun s=>s.2.2.any (fun c=>c.toNat==j)))
 | [],b,j,_=>by simp[markSlots]
 |s::ss,b,j,hj=>by
  simp only[markSlots,List.any_cons]
  rw[markS_get ss _ j (by rw[markCells_len];exact hj),mark_get _ b j hj,Bool.or_assoc]
theorem rest_iff (sd:List Bool) (m:List Nat):∀(z:Nat) (c:Int),0≤c→(restB sd m z c=true↔∀j:Nat,c.toNat≤j→j<c.toNat+z→sd.getD j false=true→m.getD j 0≠0)
 |0,c,_=>by simp[restB];intros;omega
 |z+1,c,h=>by
  simp only[restB,Bool.and_eq_true,rest_iff sd m z (c+1) (by omega)]
  rw[show(c+1).toNat=c.toNat+1 by omega]
  constructor
  ·rintro⟨h1,h2⟩ j hj1 hj2 hs
   by_cases e:j=c.toNat
   ·subst e
    rw[hs] at h1
    simpa using h1
   ·exact h2 j (by omega) (by omega) hs
  ·intro h1
   refine⟨?_,fun j hj1 hj2 hs=>h1 j (by omega) (by omega) hs⟩
   cases e:sd.getD c.toNat false with
   |false=>rfl
   |true=>simpa using h1 c.toNat (by omega) (by omega) e
theorem rest_all {S:List Slt} {m:List Nat} {n:Nat} (hn:m.length=n) (hS:∀s∈S,∀c∈s.2.2,0≤c∧c<n):restB (markSlots S (List.replicate n false)) m n 0=S.all fun s=>s.2.2.all fun c=>m.getD c.toNat 0 !=0:=by
 apply Bool.eq_iff_iff.2
 rw[rest_iff _ _ _ _ (by omega),List.all_eq_true]
 constructor
 ·intro h s hs
  rw[List.all_eq_true]
  intro c hc
  have h1:=hS s hs c hc
  have:=h c.toNat (by omega) (by omega) (by
   rw[markS_get _ _ _ (by simp;omega)]
   rw[Bool.or_eq_true]
   right
   rw[List.any_eq_true]
   exact⟨s,hs,by rw[List.any_eq_true];exact⟨c,hc,by simp⟩⟩)
  simpa using this
 ·intro h j _ hj hs
  rw[markS_get _ _ _ (by simp;omega),Bool.or_eq_true] at hs
  rcases hs with hs|hs
  ·have e:(List.replicate n false).getD j false=false:=by
    rw[List.getD_eq_getElem?_getD,List.getElem?_replicate]
    split<;>rfl
   rw[e] at hs
   cases hs
  ·rw[List.any_eq_true] at hs
   obtain⟨s,h1,h2⟩:=hs
   rw[List.any_eq_true] at h2
   obtain⟨c,h3,h4⟩:=h2
   have h5:=h s h1
   rw[List.all_eq_true] at h5
   have h6:=h5 c h3
   rw[beq_iff_eq] at h4
   rw[h4] at h6
   simpa using h6
theorem Mi_inj {a b:List Nat} (h:Mi a=Mi b):a=b:=by rw[←Nt_Mi a,h,Nt_Mi]
theorem cast_bne0 (a:Nat):((a:Int) !=0)=(a !=0):=by
 apply Bool.eq_iff_iff.2
 simp only[bne_iff_ne,ne_eq]
 omega
theorem leq_small {a b:List Nat} (h:Leq a b) (hb:Smalls b):Smalls a:=by
 intro x hx
 obtain⟨j,hj,e⟩:=List.getElem_of_mem hx
 have h1:a.getD j 0=x:=by rw[List.getD_eq_getElem?_getD,List.getElem?_eq_getElem hj,e];rfl
 rw[←h1]
 exact Nat.lt_of_le_of_lt (sub_le fun i hi=>h j i hi) (hb.at j)
theorem checkP_zero {p:Pr} (h:checkP p=0):checkF p.g=0∧(p.W.length:Int)≤1000∧(∀w∈p.W,1≤w.length∧w.length≤32∧∀c∈w,0≤c∧c<64)∧(p.M.length:Int)=p.g.h*p.g.w:=by
 unfold checkP at h
 by_cases h1:checkF p.g=0
 ·rw[if_pos h1] at h
  by_cases h2:(p.W.length:Int)>1000
  ·rw[if_pos h2] at h;exact absurd h (by decide)
  ·rw[if_neg h2] at h
   cases h3:p.W.any badW with
   |true=>rw[h3,if_pos rfl] at h;exact absurd h (by decide)
   |false=>
    rw[h3] at h
    simp only[Bool.false_eq_true,if_false] at h
    by_cases h4:(p.M.length:Int)=p.g.h*p.g.w
    ·refine⟨h1,by omega,fun w hw=> ?_,h4⟩
     have hb:badW w=false:=by
      cases e:badW w with
      |false=>rfl
      |true=>
       have:p.W.any badW=true:=List.any_eq_true.2 ⟨w,hw,e⟩
       rw[h3] at this;cases this
     unfold badW at hb
     rw[Bool.or_eq_false_iff,Bool.or_eq_false_iff,decide_eq_false_iff_not,decide_eq_false_iff_not] at hb
     refine⟨by omega,by omega,fun c hc=> ?_⟩
     have ho:oddB c=false:=by
      cases e:oddB c with
      |false=>rfl
      |true=>
       have:w.any oddB=true:=List.any_eq_true.2 ⟨c,hc,e⟩
       rw[hb.2] at this;cases this
     unfold oddB at ho
     rw[Bool.or_eq_false_iff,decide_eq_false_iff_not,decide_eq_false_iff_not] at ho
     omega
    ·rw[if_neg h4] at h;exact absurd h (by decide)
 ·rw[if_neg h1] at h;exact absurd h h1
theorem fine_of {g:Gr} {W:List (List Int)} {M:List Nat} (h:checkP ⟨g,W,M⟩=0) (hM:Smalls M):Fine W (slotsF g) M:=by
 obtain⟨h1,h2,h3,h4⟩:=checkP_zero h
 simp only at h1 h2 h3 h4
 have hw:=hw_in (chk0.1 h1).1 (chk0.1 h1).2.1
 have hl:(slotsF g).length≤2*(g.h*g.w).toNat:=by
  unfold slotsF
  rw[if_pos h1]
  exact sl_len g _ 0 0
 refine⟨h2,fun w hw=>(h3 w hw).2.1,by omega,fun s hs=> ?_,by omega,hM⟩
 have hin:=slots_in h1 s hs
 refine⟨?_,fun c hc=>by have:=hin c hc;omega⟩
 unfold slotsF at hs
 rw[if_pos h1] at hs
 have:=(slots_open _ _ _ s hs).1
 omega
end Go.Proofs.YtnakmganodkliaaDoorAm
namespace Go.Proofs.YtnakmganodkliaaDoorAm
open Go
structure LookOk (W:List (List Int)) (m:List Nat) (C L:List Int):Prop where
 mem:∀i∈L,0≤i∧i<W.length∧(wordAt W i).length=C.length∧∀c∈wordAt W i,0≤c∧c<64
 words:W.length≤1000
 long:L.length≤1000
 size:C.length≤300
 cells:∀c∈C,0≤c∧c<m.length
 small:Smalls m
theorem orW_len:∀(w:List Int) (k:Nat) (th:List Nat),(orW k w th).length=th.length
 | [],_,_=>rfl
 |c::w,k,th=>by simp only[orW];rw[orW_len w];simp
theorem orI_cons (W:List (List Int)) (m:List Nat) (C:List Int) (i:Int) (L:List Int) (th:List Nat):orI W m C th (i::L)=orI W m C (if fitL m C (wordAt W i) then orW 0 (wordAt W i) th else th) L:=rfl
theorem orI_len (W:List (List Int)) (m:List Nat) (C:List Int):∀(L:List Int) (th:List Nat),(orI W m C th L).length=th.length
 | [],_=>rfl
 |i::L,th=>by
  rw[orI_cons,orI_len W m C L]
  split
  ·exact orW_len _ _ _
  ·rfl
theorem orI_one (W:List (List Int)) (m:List Nat) (C:List Int) (i:Int) (th:List Nat):orI W m C th [i]=if fitL m C (wordAt W i) then orW 0 (wordAt W i) th else th:=rfl
theorem orI_append (W:List (List Int)) (m:List Nat) (C:List Int) (A B:List Int) (th:List Nat):orI W m C th (A++B)=orI W m C (orI W m C th A) B:=by
 unfold orI
 rw[List.foldl_append]
theorem orW_small:∀(w:List Int) (k:Nat) (th:List Nat),(∀c∈w,0≤c∧c<64)→Smalls th→Smalls (orW k w th)
 | [],_,_,_,h=>h
 |c::w,k,th,hw,h=>by
  simp only[orW]
  refine orW_small w _ _ (fun x hx=>hw x (List.mem_cons_of_mem _ hx)) ?_
  have hc:=hw c List.mem_cons_self
  intro x hx
  rcases List.mem_or_eq_of_mem_set hx with hx|hx
  ·exact h x hx
  ·rw[hx]
   refine or_lt (h.at _) ?_
   unfold bitN
   rw[if_neg (by omega)]
   exact u64_mask (by omega)
theorem orI_small (W:List (List Int)) (m:List Nat) (C:List Int):∀(L:List Int) (th:List Nat),(∀i∈L,∀c∈wordAt W i,0≤c∧c<64)→Smalls th→Smalls (orI W m C th L)
 | [],_,_,h=>h
 |i::L,th,hL,h=>by
  rw[orI_cons]
  refine orI_small W m C L _ (fun x hx=>hL x (List.mem_cons_of_mem _ hx)) ?_
  split
  ·exact orW_small _ _ _ (hL i List.mem_cons_self) h
  ·exact h
theorem keepI_append (W:List (List Int)) (m:List Nat) (C A B:List Int):keepI W m C (A++B)=keepI W m C A++keepI W m C B:=List.filter_append ..
theorem keepI_one (W:List (List Int)) (m:List Nat) (C:List Int) (x:Int):keepI W m C [x]=if fitL m C (wordAt W x) then [x] else []:=by
 unfold keepI
 rw[List.filter_cons]
 rfl
theorem take_set_snoc {α:Type}:∀(xs:List α) (i:Nat) (x:α),i<xs.length→(xs.set i x).take (i+1)=xs.take i++[x]
 | [],i,_,h=>by simp at h
 |a::xs,0,x,_=>by simp
 |a::xs,i+1,x,h=>by
  simp only[List.set_cons_succ,List.take_succ_cons,List.cons_append]
  rw[take_set_snoc xs i x (by simpa using h)]
theorem drop_set_lt {α:Type}:∀(xs:List α) (i j:Nat) (x:α),i<j→(xs.set i x).drop j=xs.drop j
 | [],i,j,x,_=>by simp
 |a::xs,i,0,x,h=>by omega
 |a::xs,0,j+1,x,_=>by simp
 |a::xs,i+1,j+1,x,h=>by
  simp only[List.set_cons_succ,List.drop_succ_cons]
  exact drop_set_lt xs i j x (by omega)
theorem find_facts (f:Int→Bool):∀(L:List Int) (k:Int),0≤k→(findI f k L= -1∧∀x∈L,f x=false)∨∃r:Nat,findI f k L=k+r∧r<L.length∧f (L.getD r 0)=true∧(∀x∈L.take r,f x=false)
 | [],k,_=> .inl ⟨rfl,by simp⟩
 |x::L,k,h=>by
  simp only[findI]
  rcases Bool.eq_false_or_eq_true (f x) with e|e
  ·rw[if_pos e]
   exact .inr ⟨0,by simp,by simp,by simpa using e,by simp⟩
  ·rw[if_neg (by simp[e])]
   rcases find_facts f L (k+1) (by omega) with⟨h1,h2⟩|⟨r,h1,h2,h3,h4⟩
   ·refine .inl ⟨h1,?_⟩
    intro y hy
    rcases List.mem_cons.1 hy with hy|hy
    ·rw[hy];exact e
    ·exact h2 y hy
   ·refine .inr ⟨r+1,by rw[h1];omega,by simpa using h2,by simpa using h3,?_⟩
    intro y hy
    rw[List.take_succ_cons] at hy
    rcases List.mem_cons.1 hy with hy|hy
    ·rw[hy];exact e
    ·exact h4 y hy
theorem takeWhile_all {α:Type} (g:α→Bool):∀(L:List α),(∀x∈L,g x=true)→L.takeWhile g=L
 | [],_=>rfl
 |x::L,h=>by
  rw[List.takeWhile_cons,h x List.mem_cons_self]
  simp only[if_true]
  rw[takeWhile_all g L fun y hy=>h y (List.mem_cons_of_mem _ hy)]
theorem takeWhile_at {α:Type} (g:α→Bool) (d:α):∀(L:List α) (r:Nat),r<L.length→g (L.getD r d)=false→(∀x∈L.take r,g x=true)→L.takeWhile g=L.take r
 | [],r,h,_,_=>by simp at h
 |x::L,0,_,h2,_=>by
  rw[List.takeWhile_cons]
  have h2:g x=false:=by simpa using h2
  rw[h2]
  simp
 |x::L,r+1,h1,h2,h3=>by
  rw[List.takeWhile_cons,h3 x (by rw[List.take_succ_cons];exact List.mem_cons_self)]
  simp only[if_true,List.take_succ_cons]
  rw[takeWhile_at g d L r (by simpa using h1) (by simpa using h2) fun y hy=>h3 y (by rw[List.take_succ_cons];exact List.mem_cons_of_mem _ hy)]
theorem keepI_all {W:List (List Int)} {m:List Nat} {C:List Int}:∀{L:List Int},(∀x∈L,fitL m C (wordAt W x)=true)→keepI W m C L=L
 | [],_=>rfl
 |x::L,h=>by
  rw[show x::L=[x]++L from rfl,keepI_append,keepI_one,if_pos (h x List.mem_cons_self),keepI_all fun y hy=>h y (List.mem_cons_of_mem _ hy)]
theorem keepI_le (W:List (List Int)) (m:List Nat) (C L:List Int):(keepI W m C L).length≤L.length:=List.length_filter_le _ _
theorem bit_and (v:Nat) (hv:v<W64) {x:Int} (h0:0≤x) (h1:x<64):(IntKind.u64.wrap (((BitVec.ofInt 64 (Int.fdiv (v:Int) (2^min x.toNat 64))&&&BitVec.ofInt 64 1).toNat:Nat):Int)==0)= !hasN v x:=by
 have ha:(BitVec.ofInt 64 ((v/2^x.toNat:Nat):Int)&&&BitVec.ofInt 64 1).toNat=(v/2^x.toNat)&&&1:=andU (a:=v/2^x.toNat) (b:=1) (Nat.lt_of_le_of_lt (Nat.div_le_self _ _) hv) (by decide)
 rw[shr1 v h1,ha,has_and h0 h1,Nat.and_one_is_mod]
 have hlt:v/2^x.toNat%2<2:=Nat.mod_lt _ (by omega)
 have hw:IntKind.u64.wrap ((v/2^x.toNat%2:Nat):Int)=((v/2^x.toNat%2:Nat):Int):=wrU (by omega) (by omega)
 rw[hw]
 apply Bool.eq_iff_iff.2
 simp only[beq_iff_eq,Bool.not_eq_true',decide_eq_false_iff_not]
 omega
end Go.Proofs.YtnakmganodkliaaDoorAm
set_option maxRecDepth 100000
namespace Go.Proofs.YtnakmganodkliaaDoorAm
open Go
def vq23 (n:Nat) (w:List Int) (k:Int) (th:List Nat) (G:Nat→St→Prop) (R:D×List (Option Row)×List Row→Prop):Prop:=(decide (k< (↑w.length:Int))=true→(0:Int)≤k∧k< (↑w.length:Int)∧(0:Int)≤k∧k< (↑n:Int)∧0+k.toNat< (Mi th).length∧¬w.getD k.toNat (Ty.int .i64).dflt< (0:Int)∧(0:Int)≤k∧k< (↑n:Int)∧0+k.toNat< (Mi th).length∧SameK (KK n124 1) (KK n124 1)∧G 1 (stOf 60 [3,44,45,46] [D.ptr 0 0 0,D.sl false false (Ty.int .i64) w,D.v (Value.int .i64 (↑w.length:Int)),D.v (Value.int .i64 (IntKind.i64.wrap (k+(1:Int))))] [Slot.live (Row.box 33 [D.own 1 0 n (some n)]),Slot.live (Row.data 22 (Ty.int .u64) ((Mi th).set (0+k.toNat) (IntKind.u64.wrap (↑(BitVec.ofInt 64 ((Mi th).getD (0+k.toNat) (Ty.int .u64).dflt)|||BitVec.ofInt 64 (IntKind.u64.wrap ((1:Int)*(2:Int)^min (Int.toNat (w.getD k.toNat (Ty.int .i64).dflt)) 64))).toNat:Int))))]))∧(decide (k< (↑w.length:Int))=false→R (D.v (Value.bool false),[some (Row.box 33 [D.own 1 0 n (some n)]),some (Row.data 22 (Ty.int .u64) (Mi th))],[]))
theorem e124b (W:List (List Int)) (S:List Slt) (m:List Nat) (C:List Int) (n:Nat) (i:Int) (w:List Int) (hwl:w.length=n) (hn:n≤300) (hw:∀c∈w,0≤c∧c<64) (thE:List Nat) (z:Nat):∀(k:Int) (th:List Nat),0≤k→k+z=w.length→th.length=n→Smalls th→orW k.toNat (w.drop k.toNat) th=thE→GetsK Tryd.prog Tryd.f155.results.toList [none] (KK n124) 2 (.v (.bool false),[some (.box 33 [.own 1 0 n (some n)]),some (.data 22 (.int .u64) (Mi thE))],[]) 1 (stOf 60 [3,44,45,46] [.ptr 0 0 0,slI w,.v (.int .i64 w.length),.v (.int .i64 k)] [.live (.box 33 [.own 1 0 n (some n)]),.live (.data 22 (.int .u64) (Mi th))]):=by
 induction z with
 |zero=>
  intro k th k0 hk hth hts he
  rw[List.drop_eq_nil_of_le (by omega)] at he
  have he:th=thE:=he
  subst he
  refine gets_vc spNa (fun k=> [[0,1,2,3,16,17,18],[3,44,45,46]].getD k []) (fun _=> []) 400 (.fork (.hd 1) .stop) (V:=vq23 n w k th) hmG (fun G R=>by kernel_rfl) ?_
  unfold vq23
  try dsimp only
  simp (disch:=omega) only[oo,oop,ne_eq,Ty.dflt,reduceCtorEq]
  repeat' (first|with_reducible refine And.intro ?_ ?_|intro _)
  all_goals first|rfl|omega|assumption|trivial|exact room3 (by omega)|(exfalso;simp_all;done)|(exfalso;omega)|skip
 |succ z ih=>
  intro k th k0 hk hth hts he
  rw[drop_at (xs:=w) (i:=k) (0:Int) k0 (by omega)] at he
  simp only[orW] at he
  have hc:=hw _ (getD_in (d:=0) (k:=k.toNat) (l:=w) (by omega))
  obtain⟨c,hcc⟩:∃c,w.getD k.toNat 0=c:=⟨_,rfl⟩
  rw[hcc] at he hc
  have hbc:bitN c=2^c.toNat:=if_neg (by omega)
  rw[hbc] at he
  have hk1:IntKind.i64.wrap (k+1)=k+1:=wrG (by omega) (by omega)
  have hstep:=of_step (th.getD k.toNat 0) c hc.1 hc.2 (hts.at _)
  have hsh:=shl1 hc.1 hc.2
  have hx:=ih (k+1) (th.set k.toNat (th.getD k.toNat 0|||2^c.toNat)) (by omega) (by omega) (by rw[List.length_set];exact hth) (by
   intro y hy
   rcases List.mem_or_eq_of_mem_set hy with hy|hy
   ·exact hts y hy
   ·rw[hy];exact or_lt (hts.at _) (u64_mask (by omega))) (by rw[show(k+1).toNat=k.toNat+1 by omega] at he⊢;exact he)
  refine gets_vc spNa (fun k=> [[0,1,2,3,16,17,18],[3,44,45,46]].getD k []) (fun _=> []) 400 (.fork (.hd 1) .stop) (V:=vq23 n w k th) hmG (fun G R=>by kernel_rfl) ?_
  unfold vq23
  try dsimp only
  simp only[Ty.dflt,hk1,hcc,take_len,List.drop_zero,List.take_length,Mi_getD,Mi_len,Nt_Mi,Int.toNat_natCast,Mi_set,Nat.zero_add,Nat.sub_zero,orI_len,orW_len,hsh,hstep]
  simp (disch:=omega) only[oo,oop,ne_eq,Ty.dflt,reduceCtorEq]
  repeat' (first|with_reducible refine And.intro ?_ ?_|intro _)
  all_goals first|rfl|omega|assumption|trivial|exact room3 (by omega)|(exfalso;simp_all;done)|(exfalso;omega)|skip
def vq24 (W:List (List Int)) (S:List Slt) (m:List Nat) (C:List Int) (n:Nat) (i:Int) (w:List Int) (th:List Nat) (k:Int) (G:Nat→St→Prop) (R:D×List (Option Row)×List Row→Prop):Prop:=let yy0:=(IntKind.u64.wrap (↑(BitVec.ofInt 64 (Int.fdiv ((Mi m).getD (Int.toNat (C.getD k.toNat (Ty.int .i64).dflt)) (Ty.int .u64).dflt) ((2:Int)^min (Int.toNat (w.getD k.toNat (Ty.int .i64).dflt)) 64))&&&BitVec.ofInt 64 (1:Int)).toNat:Int)==(0:Int));let yy1:=(Ty.int .i64);let yy2:=(Row.data 22 (Ty.int .u64) (Mi th));(decide (k< (↑w.length:Int))=true→(0:Int)≤k∧k< (↑w.length:Int)∧(0:Int)≤k∧k< (↑C.length:Int)∧(0:Int)≤C.getD k.toNat yy1.dflt∧C.getD k.toNat yy1.dflt< (↑(Mi m).length:Int)∧¬w.getD k.toNat yy1.dflt< (0:Int)∧(yy0=true→R (D.v (Value.bool true),[some (Row.box 33 [D.own 1 0 n (some n)]),some yy2],[]))∧(yy0=false→SameK (KK n124 0) (KK n124 0)∧G 0 (stOf 60 [0,1,2,3,16,17,18] [D.v (Value.int .i64 i),D.rptr [D.rptr [D.sl false false yy1.sl W,D.sl false false (yy1.prod (Ty.bool.prod yy1.sl)) S,D.sl false false (Ty.int .u64) (Mi m),D.top]],D.rptr [D.sl false false yy1 C],D.ptr 0 0 0,D.sl false false yy1 w,D.v (Value.int .i64 (↑w.length:Int)),D.v (Value.int .i64 (IntKind.i64.wrap (k+(1:Int))))] [Slot.live (Row.box 33 [D.own 1 0 n (some n)]),Slot.live yy2])))∧(decide (k< (↑w.length:Int))=false→(0:Int)≤i∧i< (↑W.length:Int)∧SameK (KK n124 1) (KK n124 1)∧G 1 (stOf 60 [3,44,45,46] [D.ptr 0 0 0,D.sl false false yy1 (W.getD i.toNat yy1.sl.dflt),D.v (Value.int .i64 (↑(List.length (W.getD i.toNat yy1.sl.dflt)):Int)),D.v (Value.int .i64 (0:Int))] [Slot.live (Row.box 33 [D.own 1 0 n (some n)]),Slot.live yy2]))
theorem e124a (W:List (List Int)) (S:List Slt) (m:List Nat) (C:List Int) (n:Nat) (i:Int) (w:List Int) (i0:0≤i) (i1:i<W.length) (hwi:W.getD i.toNat []=w) (hwl:w.length=C.length) (hn:C.length=n) (hn3:n≤300) (hw:∀c∈w,0≤c∧c<64) (hC:∀c∈C,0≤c∧c<m.length) (hm:Smalls m) (th:List Nat) (hth:th.length=n) (hts:Smalls th) (z:Nat):∀(k:Int),0≤k→k+z=w.length→∀r,r=((C.drop k.toNat).zip (w.drop k.toNat)).all (fun q=>hasN (m.getD q.1.toNat 0) q.2)→GetsK Tryd.prog Tryd.f155.results.toList [none] (KK n124) 2 (.v (.bool (!r)),[some (.box 33 [.own 1 0 n (some n)]),some (.data 22 (.int .u64) (Mi (if r then orW 0 w th else th)))],[]) 0 (stOf 60 [0,1,2,3,16,17,18] [.v (.int .i64 i),envD W S m,.rptr [slI C],.ptr 0 0 0,slI w,.v (.int .i64 w.length),.v (.int .i64 k)] [.live (.box 33 [.own 1 0 n (some n)]),.live (.data 22 (.int .u64) (Mi th))]):=by
 induction z with
 |zero=>
  intro k k0 hk r hr
  rw[List.drop_eq_nil_of_le (by omega)] at hr
  have hr:r=true:=by rw[hr];rfl
  subst hr
  have hx:=e124b W S m C n i w (by omega) hn3 hw (orW 0 w th) w.length 0 th (by omega) (by omega) hth hts rfl
  refine gets_vc spNa (fun k=> [[0,1,2,3,16,17,18],[3,44,45,46]].getD k []) (fun _=> []) 400 (.fork (.fork .stop (.hd 0)) (.hd 1)) (V:=vq24 W S m C n i w th k) hmG (fun G R=>by kernel_rfl) ?_
  unfold vq24
  try dsimp only
  simp only[Ty.dflt,hwi,Bool.not_true,if_true]
  simp (disch:=omega) only[oo,oop,ne_eq,Ty.dflt,reduceCtorEq]
  repeat' (first|with_reducible refine And.intro ?_ ?_|intro _)
  all_goals first|rfl|omega|assumption|trivial|exact room3 (by omega)|(exfalso;simp_all;done)|(exfalso;omega)|skip
 |succ z ih=>
  intro k k0 hk r hr
  rw[drop_at (xs:=C) (i:=k) (0:Int) k0 (by omega),drop_at (xs:=w) (i:=k) (0:Int) k0 (by omega)] at hr
  simp only[List.zip_cons_cons,List.all_cons] at hr
  have hk1:IntKind.i64.wrap (k+1)=k+1:=wrG (by omega) (by omega)
  have hx:=ih (k+1) (by omega) (by omega) _ rfl
  have hc:=hC (C.getD k.toNat 0) (getD_in (by omega))
  have hl:=hw (w.getD k.toNat 0) (getD_in (by omega))
  have hb:=bit_and (m.getD (C.getD k.toNat 0).toNat 0) (hm.at _) hl.1 hl.2
  refine gets_vc spNa (fun k=> [[0,1,2,3,16,17,18],[3,44,45,46]].getD k []) (fun _=> []) 400 (.fork (.fork .stop (.hd 0)) (.hd 1)) (V:=vq24 W S m C n i w th k) hmG (fun G R=>by kernel_rfl) ?_
  unfold vq24
  try dsimp only
  simp only[Ty.dflt,hk1,take_len,List.drop_zero,List.take_length,Mi_getD,Mi_len,Nt_Mi,Int.toNat_natCast,Mi_set,Nat.zero_add,Nat.sub_zero,orI_len,orW_len,hb]
  cases ho:hasN (m.getD (C.getD k.toNat 0).toNat 0) (w.getD k.toNat 0)<;>rw[ho] at hr<;>simp only[Bool.true_and,Bool.false_and] at hr<;>subst hr<;>simp only[Bool.not_false,Bool.not_true]
  all_goals simp (disch:=omega) only[oo,oop,ne_eq,Ty.dflt,reduceCtorEq];repeat' (first|with_reducible refine And.intro ?_ ?_|intro _)
  all_goals first|rfl|omega|assumption|trivial|exact room3 (by omega)|(exfalso;simp_all;done)|(exfalso;omega)|skip
theorem d124 (W:List (List Int)) (S:List Slt) (m:List Nat) (C:List Int) (n:Nat) (th:List Nat) (i:Int) (i0:0≤i) (i1:i<W.length) (hwl:(wordAt W i).length=C.length) (hn:C.length=n) (hn3:n≤300) (hw:∀c∈wordAt W i,0≤c∧c<64) (hC:∀c∈C,0≤c∧c<m.length) (hm:Smalls m) (hth:th.length=n) (hts:Smalls th):Con Tryd.prog 155 [.box 33 [.own 1 0 n (some n)],.data 22 (.int .u64) (Mi th)] [.v (.int .i64 i),envD W S m,.rptr [slI C],.ptr 0 0 0] (.v (.bool (!fitL m C (wordAt W i)))) [some (.box 33 [.own 1 0 n (some n)]),some (.data 22 (.int .u64) (Mi (orI W m C th [i])))] []:=by
 refine con_vc (how:=[none]) (c:=n124) (K:=(KK n124)) spNa (fun k=> [[0,1,2,3,16,17,18],[3,44,45,46]].getD k []) (fun _=> []) 400 (.hd 0) (V:=fun G R=>let yy0:=(Ty.int .i64);(0:Int)≤i∧i< (↑W.length:Int)∧SameK (KK n124 0) (KK n124 0)∧G 0 (stOf 60 [0,1,2,3,16,17,18] [D.v (Value.int .i64 i),D.rptr [D.rptr [D.sl false false yy0.sl W,D.sl false false (yy0.prod (Ty.bool.prod yy0.sl)) S,D.sl false false (Ty.int .u64) (Mi m),D.top]],D.rptr [D.sl false false yy0 C],D.ptr 0 0 0,D.sl false false yy0 (W.getD i.toNat yy0.sl.dflt),D.v (Value.int .i64 (↑(List.length (W.getD i.toNat yy0.sl.dflt)):Int)),D.v (Value.int .i64 (0:Int))] [Slot.live (Row.box 33 [D.own 1 0 n (some n)]),Slot.live (Row.data 22 (Ty.int .u64) (Mi th))])) hmG Tryd.func155 (by kernel_rfl) (by kernel_rfl) (fun G R=>by kernel_rfl) ?_
 try dsimp only
 try dsimp only
 obtain⟨w,hwi⟩:∃w,W.getD i.toNat []=w:=⟨_,rfl⟩
 rw[orI_one]
 unfold wordAt at hwl hw⊢
 rw[hwi] at hwl hw⊢
 have e:fitL m C w=(C.zip w).all (fun q=>hasN (m.getD q.1.toNat 0) q.2):=by
  unfold fitL
  rw[hwl,beq_self_eq_true,Bool.true_and]
 have hx:=e124a W S m C n i w i0 i1 hwi hwl hn hn3 hw hC hm th hth hts w.length 0 (by omega) (by omega) (fitL m C w) (by rw[e];rfl)
 simp only[Ty.dflt,hwi]
 simp (disch:=omega) only[oo,oop,ne_eq,Ty.dflt,reduceCtorEq]
 repeat' (first|with_reducible refine And.intro ?_ ?_|intro _)
 all_goals first|rfl|omega|assumption|trivial|exact room3 (by omega)|(exfalso;simp_all;done)|(exfalso;omega)|skip
theorem e128t (W:List (List Int)) (S:List Slt) (m:List Nat) (C:List Int) (n:Nat) (L:List Int) (hn:C.length=n) (F:LookOk W m C L) (z:Nat):∀(k:Int) (th:List Nat),0≤k→k+z=L.length→th.length=n→Smalls th→∀r thE,r=findI (fun i=> !fitL m C (wordAt W i)) k (L.drop k.toNat)→thE=orI W m C th ((L.drop k.toNat).takeWhile fun i=>fitL m C (wordAt W i))→GetsK Tryd.prog Tryd.f138.results.toList [none] (KK n128) 2 (.v (.int .i64 r),[some (.box 33 [.own 1 0 n (some n)]),some (.data 22 (.int .u64) (Mi thE))],[]) 0 (stOf 19 [0,1,7,8] [slI L,.fn 155 [envD W S m,.rptr [slI C],.ptr 0 0 0],.v (.int .i64 L.length),.v (.int .i64 k)] [.live (.box 33 [.own 1 0 n (some n)]),.live (.data 22 (.int .u64) (Mi th))]):=by
 have hL:=F.long
 have hsz:=F.size
 induction z with
 |zero=>
  intro k th k0 hk hth hts r thE hr he
  rw[List.drop_eq_nil_of_le (by omega)] at hr he
  have hr:r= -1:=hr
  have he:thE=th:=he
  subst hr;subst he
  refine gets_vc spNa (fun k=> [0,1,7,8]) (fun _=> []) 400 (.fork (.fork .stop (.hd 0)) .stop) (V:=fun G R=>let yy0:=(Ty.int .i64);let yy1:=(Row.data 22 (Ty.int .u64) (Mi (orI W (Nt (Mi m)) C (Nt (Mi thE)) [L.getD k.toNat yy0.dflt])));let yy2:=(Row.box 33 [D.own 1 0 n (some n)]);let yy3:=(L.getD k.toNat yy0.dflt);let yy4:=(Ty.int .u64);(decide (k< (↑L.length:Int))=true→(0:Int)≤k∧k< (↑L.length:Int)∧Con Tryd.prog 155 [Row.box 33 [D.own 1 0 n (some n)],Row.data 22 yy4 (Mi (Nt (Mi thE)))] [D.v (Value.int .i64 yy3),D.rptr [D.rptr [D.sl false false yy0.sl W,D.sl false false (yy0.prod (Ty.bool.prod yy0.sl)) S,D.sl false false yy4 (Mi (Nt (Mi m))),D.top]],D.rptr [D.sl false false yy0 C],D.ptr 0 0 0] (D.v (Value.bool !fitL (Nt (Mi m)) C (wordAt W yy3))) [some yy2,some yy1] []∧Value.int .i64 yy3=Value.int .i64 yy3∧W=W∧S=S∧Mi m=Mi (Nt (Mi m))∧C=C∧0=0∧0=0∧0=0∧(Mi (orI W (Nt (Mi m)) C (Nt (Mi thE)) [L.getD k.toNat yy0.dflt])).length=(Mi (Nt (Mi thE))).length∧some yy2=some yy2∧some (Row.data 22 yy4 (Mi thE))=some (Row.data 22 yy4 (Mi (Nt (Mi thE))))∧((!fitL (Nt (Mi m)) C (wordAt W yy3))=true→R (D.v (Value.int .i64 k),[some yy2,some yy1],[]))∧((!fitL (Nt (Mi m)) C (wordAt W yy3))=false→SameK (KK n128 0) (KK n128 0)∧G 0 (stOf 19 [0,1,7,8] [D.sl false false yy0 L,D.fn 155 [D.rptr [D.rptr [D.sl false false yy0.sl W,D.sl false false (yy0.prod (Ty.bool.prod yy0.sl)) S,D.sl false false yy4 (Mi m),D.top]],D.rptr [D.sl false false yy0 C],D.ptr 0 0 0],D.v (Value.int .i64 (↑L.length:Int)),D.v (Value.int .i64 (IntKind.i64.wrap (k+(1:Int))))] [Slot.live yy2,Slot.live yy1])))∧(decide (k< (↑L.length:Int))=false→R (D.v (Value.int .i64 (-1:Int)),[some yy2,some (Row.data 22 yy4 (Mi thE))],[]))) hmG (fun G R=>by kernel_rfl) ?_
  try dsimp only
  simp (disch:=omega) only[oo,oop,ne_eq,Ty.dflt,reduceCtorEq]
  repeat' (first|with_reducible refine And.intro ?_ ?_|intro _)
  all_goals first|rfl|omega|assumption|trivial|exact room3 (by omega)|(exfalso;simp_all;done)|(exfalso;omega)|skip
 |succ z ih=>
  intro k th k0 hk hth hts r thE hr he
  rw[drop_at (xs:=L) (i:=k) (0:Int) k0 (by omega)] at hr he
  have hi:=F.mem _ (getD_in (d:=0) (k:=k.toNat) (l:=L) (by omega))
  obtain⟨i,hii⟩:∃i,L.getD k.toNat 0=i:=⟨_,rfl⟩
  rw[hii] at hr he hi
  have c1:=d124 W S m C n th i hi.1 hi.2.1 hi.2.2.1 hn (by omega) hi.2.2.2 F.cells F.small hth hts
  have hk1:IntKind.i64.wrap (k+1)=k+1:=wrG (by omega) (by omega)
  simp only[findI,List.takeWhile_cons] at hr he
  have hx:=ih (k+1) (orI W m C th [i]) (by omega) (by omega) (by rw[orI_len];exact hth) (orI_small W m C [i] th (fun x hx=>by rw[List.mem_singleton.1 hx];exact hi.2.2.2) hts) _ _ rfl rfl
  refine gets_vc spNa (fun k=> [0,1,7,8]) (fun _=> []) 400 (.fork (.fork .stop (.hd 0)) .stop) (V:=fun G R=>let yy0:=(Ty.int .i64);let yy1:=(Row.data 22 (Ty.int .u64) (Mi (orI W (Nt (Mi m)) C (Nt (Mi th)) [L.getD k.toNat yy0.dflt])));let yy2:=(Row.box 33 [D.own 1 0 n (some n)]);let yy3:=(L.getD k.toNat yy0.dflt);let yy4:=(Ty.int .u64);(decide (k< (↑L.length:Int))=true→(0:Int)≤k∧k< (↑L.length:Int)∧Con Tryd.prog 155 [Row.box 33 [D.own 1 0 n (some n)],Row.data 22 yy4 (Mi (Nt (Mi th)))] [D.v (Value.int .i64 yy3),D.rptr [D.rptr [D.sl false false yy0.sl W,D.sl false false (yy0.prod (Ty.bool.prod yy0.sl)) S,D.sl false false yy4 (Mi (Nt (Mi m))),D.top]],D.rptr [D.sl false false yy0 C],D.ptr 0 0 0] (D.v (Value.bool !fitL (Nt (Mi m)) C (wordAt W yy3))) [some yy2,some yy1] []∧Value.int .i64 yy3=Value.int .i64 yy3∧W=W∧S=S∧Mi m=Mi (Nt (Mi m))∧C=C∧0=0∧0=0∧0=0∧(Mi (orI W (Nt (Mi m)) C (Nt (Mi th)) [L.getD k.toNat yy0.dflt])).length=(Mi (Nt (Mi th))).length∧some yy2=some yy2∧some (Row.data 22 yy4 (Mi th))=some (Row.data 22 yy4 (Mi (Nt (Mi th))))∧((!fitL (Nt (Mi m)) C (wordAt W yy3))=true→R (D.v (Value.int .i64 k),[some yy2,some yy1],[]))∧((!fitL (Nt (Mi m)) C (wordAt W yy3))=false→SameK (KK n128 0) (KK n128 0)∧G 0 (stOf 19 [0,1,7,8] [D.sl false false yy0 L,D.fn 155 [D.rptr [D.rptr [D.sl false false yy0.sl W,D.sl false false (yy0.prod (Ty.bool.prod yy0.sl)) S,D.sl false false yy4 (Mi m),D.top]],D.rptr [D.sl false false yy0 C],D.ptr 0 0 0],D.v (Value.int .i64 (↑L.length:Int)),D.v (Value.int .i64 (IntKind.i64.wrap (k+(1:Int))))] [Slot.live yy2,Slot.live yy1])))∧(decide (k< (↑L.length:Int))=false→R (D.v (Value.int .i64 (-1:Int)),[some yy2,some (Row.data 22 yy4 (Mi th))],[]))) hmG (fun G R=>by kernel_rfl) ?_
  try dsimp only
  simp only[Ty.dflt,hk1,hii,take_len,List.drop_zero,List.take_length,Mi_getD,Mi_len,Nt_Mi,Int.toNat_natCast,Mi_set,Nat.zero_add,Nat.sub_zero,orI_len,orW_len]
  rcases Bool.eq_false_or_eq_true (fitL m C (wordAt W i)) with h|h
  ·simp only[Bool.not_true,Bool.false_eq_true,if_false,if_true,orI_cons,h] at hr he
   rw[←hr] at hx
   simp only[orI_one,h,if_true,Bool.not_true] at hx c1
   rw[←he] at hx
   simp only[h,orI_one,Bool.not_true,if_true]
   simp (disch:=omega) only[oo,oop,ne_eq,Ty.dflt,reduceCtorEq]
   repeat' (first|with_reducible refine And.intro ?_ ?_|intro _)
   all_goals first|rfl|omega|assumption|trivial|exact room3 (by omega)|(exfalso;simp_all;done)|(exfalso;omega)|skip
  ·simp only[h,Bool.not_false,if_true,Bool.false_eq_true,if_false] at hr he
   have he:thE=th:=he
   simp only[orI_one,h,Bool.false_eq_true,if_false,Bool.not_false] at c1
   subst hr;subst he
   simp only[h,orI_one,Bool.not_false,Bool.false_eq_true,if_false]
   simp (disch:=omega) only[oo,oop,ne_eq,Ty.dflt,reduceCtorEq]
   repeat' (first|with_reducible refine And.intro ?_ ?_|intro _)
   all_goals first|rfl|omega|assumption|trivial|exact room3 (by omega)|(exfalso;simp_all;done)|(exfalso;omega)|skip
theorem d128t (W:List (List Int)) (S:List Slt) (m:List Nat) (C:List Int) (n:Nat) (L:List Int) (th:List Nat) (hn:C.length=n) (F:LookOk W m C L) (hth:th.length=n) (hts:Smalls th):Con Tryd.prog 138 [.box 33 [.own 1 0 n (some n)],.data 22 (.int .u64) (Mi th)] [slI L,.fn 155 [envD W S m,.rptr [slI C],.ptr 0 0 0]] (.v (.int .i64 (findI (fun i=> !fitL m C (wordAt W i)) 0 L))) [some (.box 33 [.own 1 0 n (some n)]),some (.data 22 (.int .u64) (Mi (orI W m C th (L.takeWhile fun i=>fitL m C (wordAt W i)))))] []:=by
 refine con_vc (how:=[none]) (c:=n128) (K:=(KK n128)) spNa (fun k=> [0,1,7,8]) (fun _=> []) 400 (.hd 0) (V:=fun G R=>let yy0:=(Ty.int .i64);SameK (KK n128 0) (KK n128 0)∧G 0 (stOf 19 [0,1,7,8] [D.sl false false yy0 L,D.fn 155 [D.rptr [D.rptr [D.sl false false yy0.sl W,D.sl false false (yy0.prod (Ty.bool.prod yy0.sl)) S,D.sl false false (Ty.int .u64) (Mi m),D.top]],D.rptr [D.sl false false yy0 C],D.ptr 0 0 0],D.v (Value.int .i64 (↑L.length:Int)),D.v (Value.int .i64 (0:Int))] [Slot.live (Row.box 33 [D.own 1 0 n (some n)]),Slot.live (Row.data 22 (Ty.int .u64) (Mi th))])) hmG Tryd.func138 (by kernel_rfl) (by kernel_rfl) (fun G R=>by kernel_rfl) ?_
 try dsimp only
 try dsimp only
 have hx:=e128t W S m C n L hn F L.length 0 th (by omega) (by omega) hth hts _ _ rfl rfl
 simp only[show(0:Int).toNat=0 by rfl,List.drop_zero] at hx
 simp (disch:=omega) only[oo,oop,ne_eq,Ty.dflt,reduceCtorEq]
 repeat' (first|with_reducible refine And.intro ?_ ?_|intro _)
 all_goals first|rfl|omega|assumption|trivial|exact room3 (by omega)|(exfalso;simp_all;done)|(exfalso;omega)|skip
def vq25 (W:List (List Int)) (S:List Slt) (m:List Nat) (C:List Int) (n:Nat) (L:List Int) (j:Int) (i:Int) (xs:List Int) (th:List Nat) (G:Nat→St→Prop) (R:D×List (Option Row)×List Row→Prop):Prop:=let yy0:=(Ty.int .i64);let yy1:=(Row.data 22 (Ty.int .u64) (Mi (orI W (Nt (Mi m)) C (Nt (Mi th)) [xs.getD (0+j.toNat) yy0.dflt])));let yy2:=(xs.getD (0+j.toNat) yy0.dflt);let yy3:=(List.take (0+i.toNat) xs++List.replicate ((↑L.length:Int).toNat-i.toNat) (0:Int)++List.drop (0+i.toNat+((↑L.length:Int).toNat-i.toNat)) xs);let yy4:=(Row.box 33 [D.own 2 0 n (some n)]);let yy5:=(Ty.int .u64);let yy6:=(↑L.length:Int);(decide (j<yy6)=true→(0:Int)≤j∧j<yy6∧0+j.toNat<xs.length∧Con Tryd.prog 155 [Row.box 33 [D.own 1 0 n (some n)],Row.data 22 yy5 (Mi (Nt (Mi th)))] [D.v (Value.int .i64 yy2),D.rptr [D.rptr [D.sl false false yy0.sl W,D.sl false false (yy0.prod (Ty.bool.prod yy0.sl)) S,D.sl false false yy5 (Mi (Nt (Mi m))),D.top]],D.rptr [D.sl false false yy0 C],D.ptr 0 0 0] (D.v (Value.bool !fitL (Nt (Mi m)) C (wordAt W yy2))) [some (Row.box 33 [D.own 1 0 n (some n)]),some yy1] []∧Value.int .i64 yy2=Value.int .i64 yy2∧W=W∧S=S∧Mi m=Mi (Nt (Mi m))∧C=C∧1=1∧0=0∧0=0∧(Mi (orI W (Nt (Mi m)) C (Nt (Mi th)) [xs.getD (0+j.toNat) yy0.dflt])).length=(Mi (Nt (Mi th))).length∧some yy4=some yy4∧some (Row.data 22 yy5 (Mi th))=some (Row.data 22 yy5 (Mi (Nt (Mi th))))∧((!!fitL (Nt (Mi m)) C (wordAt W yy2))=true→(0:Int)≤i∧i<yy6∧0+i.toNat<xs.length∧SameK (KK n123 0) (KK n123 0)∧G 0 (stOf 42 [0,1,5,6] [D.own 0 0 L.length none,D.fn 155 [D.rptr [D.rptr [D.sl false false yy0.sl W,D.sl false false (yy0.prod (Ty.bool.prod yy0.sl)) S,D.sl false false yy5 (Mi m),D.top]],D.rptr [D.sl false false yy0 C],D.ptr 1 0 0],D.v (Value.int .i64 (IntKind.i64.wrap (i+(1:Int)))),D.v (Value.int .i64 (IntKind.i64.wrap (j+(1:Int))))] [Slot.live (Row.data 3 yy0 (xs.set (0+i.toNat) yy2)),Slot.live yy4,Slot.live yy1]))∧((!!fitL (Nt (Mi m)) C (wordAt W yy2))=false→SameK (KK n123 0) (KK n123 0)∧G 0 (stOf 42 [0,1,5,6] [D.own 0 0 L.length none,D.fn 155 [D.rptr [D.rptr [D.sl false false yy0.sl W,D.sl false false (yy0.prod (Ty.bool.prod yy0.sl)) S,D.sl false false yy5 (Mi m),D.top]],D.rptr [D.sl false false yy0 C],D.ptr 1 0 0],D.v (Value.int .i64 i),D.v (Value.int .i64 (IntKind.i64.wrap (j+(1:Int))))] [Slot.live (Row.data 3 yy0 xs),Slot.live yy4,Slot.live yy1])))∧(decide (j<yy6)=false→(0:Int)≤i∧i≤yy6∧yy6≤(↑(xs.length-0):Int)∧(0:Int)≤(0:Int)∧(0:Int)≤i∧i≤(↑(yy3.length-0):Int)∧R (D.own 0 0 (i.toNat-0) none,[some (Row.data 3 yy0 yy3),some yy4,some (Row.data 22 yy5 (Mi th))],[]))
theorem e123 (W:List (List Int)) (S:List Slt) (m:List Nat) (C:List Int) (n:Nat) (L:List Int) (hn:C.length=n) (F:LookOk W m C L) (th0:List Nat) (ht0:th0.length=n) (hs0:Smalls th0) (z:Nat):∀(j i:Int) (xs:List Int) (th:List Nat),0≤j→j+z=L.length→xs.length=L.length→xs.drop j.toNat=L.drop j.toNat→xs.take i.toNat=keepI W m C (L.take j.toNat)→th=orI W m C th0 (L.take j.toNat)→i=((keepI W m C (L.take j.toNat)).length:Int)→GetsK Tryd.prog Tryd.f154.results.toList [none] (KK n123) 3 (.own 0 0 (keepI W m C L).length none,[some (.data 3 (.int .i64) (keepI W m C L++List.replicate (L.length-(keepI W m C L).length) 0)),some (.box 33 [.own 2 0 n (some n)]),some (.data 22 (.int .u64) (Mi (orI W m C th0 L)))],[]) 0 (stOf 42 [0,1,5,6] [.own 0 0 L.length none,.fn 155 [envD W S m,.rptr [slI C],.ptr 1 0 0],.v (.int .i64 i),.v (.int .i64 j)] [.live (.data 3 (.int .i64) xs),.live (.box 33 [.own 2 0 n (some n)]),.live (.data 22 (.int .u64) (Mi th))]):=by
 have hL:=F.long
 have hsz:=F.size
 induction z with
 |zero=>
  intro j i xs th j0 hj hxl hdr htk hth hi
  have e0:L.take j.toNat=L:=List.take_of_length_le (by omega)
  rw[e0] at htk hth hi
  have hkl:=keepI_le W m C L
  have hin:i.toNat=(keepI W m C L).length:=by omega
  have e:List.take i.toNat xs++List.replicate (L.length-i.toNat) 0++List.drop (i.toNat+(L.length-i.toNat)) xs=keepI W m C L++List.replicate (L.length-(keepI W m C L).length) 0:=by
   rw[List.drop_eq_nil_of_le (by omega),List.append_nil,htk,hin]
  have el:(keepI W m C L++List.replicate (L.length-(keepI W m C L).length) 0).length=L.length:=by
   rw[List.length_append,List.length_replicate]
   omega
  refine gets_vc spNa (fun k=> [0,1,5,6]) (fun _=> []) 400 (.fork (.fork (.hd 0) (.hd 0)) .stop) (V:=vq25 W S m C n L j i xs th) hmG (fun G R=>by kernel_rfl) ?_
  unfold vq25
  try dsimp only
  simp only[take_len,List.drop_zero,List.take_length,Mi_getD,Mi_len,Nt_Mi,Int.toNat_natCast,Mi_set,Nat.zero_add,Nat.sub_zero,orI_len,orW_len,e,el,hxl]
  rw[hin,hth]
  simp (disch:=omega) only[oo,oop,ne_eq,Ty.dflt,reduceCtorEq]
  repeat' (first|with_reducible refine And.intro ?_ ?_|intro _)
  all_goals first|rfl|omega|assumption|trivial|exact room3 (by omega)|(exfalso;simp_all;done)|(exfalso;omega)|skip
 |succ z ih=>
  intro j i xs th j0 hj hxl hdr htk hth hi
  have hx0:=drop_at (xs:=xs) (i:=j) (0:Int) j0 (by omega)
  have hl0:=drop_at (xs:=L) (i:=j) (0:Int) j0 (by omega)
  rw[hdr,hl0] at hx0
  rw[List.cons.injEq] at hx0
  have ht:=take_succ_at (0:Int) L j0 (by omega)
  have hmem:=F.mem _ (getD_in (d:=0) (k:=j.toNat) (l:=L) (by omega))
  obtain⟨v,hv⟩:∃v,L.getD j.toNat 0=v:=⟨_,rfl⟩
  have hxv:xs.getD j.toNat 0=v:=by rw[←hx0.1,hv]
  rw[hv] at ht hmem
  have hkl:=keepI_le W m C (L.take j.toNat)
  have htl:(L.take j.toNat).length=j.toNat:=by rw[List.length_take];omega
  rw[htl] at hkl
  have hlen:th.length=n:=by rw[hth,orI_len];exact ht0
  have hsm:Smalls th:=by
   rw[hth]
   exact orI_small W m C _ th0 (fun x hx=>(F.mem x (List.mem_of_mem_take hx)).2.2.2) hs0
  have c1:=d124 W S m C n th v hmem.1 hmem.2.1 hmem.2.2.1 hn (by omega) hmem.2.2.2 F.cells F.small hlen hsm
  have hj1:IntKind.i64.wrap (j+1)=j+1:=wrG (by omega) (by omega)
  have hi1:IntKind.i64.wrap (i+1)=i+1:=wrG (by omega) (by omega)
  rcases Bool.eq_false_or_eq_true (fitL m C (wordAt W v)) with h|h
  ·have hk:keepI W m C (L.take (j+1).toNat)=keepI W m C (L.take j.toNat)++[v]:=by rw[ht,keepI_append,keepI_one,if_pos h]
   have hx:=ih (j+1) (i+1) (xs.set i.toNat v) (orW 0 (wordAt W v) th) (by omega) (by omega) (by rw[List.length_set];exact hxl)
    (by rw[drop_set_lt _ _ _ _ (by omega),hx0.2])
    (by rw[show(i+1).toNat=i.toNat+1 by omega,take_set_snoc _ _ _ (by omega),hk,htk])
    (by rw[ht,orI_append,←hth,orI_one,if_pos h])
    (by rw[hk,List.length_append,List.length_cons,List.length_nil];omega)
   rw[orI_one,if_pos h,h] at c1
   refine gets_vc spNa (fun k=> [0,1,5,6]) (fun _=> []) 400 (.fork (.fork (.hd 0) (.hd 0)) .stop) (V:=vq25 W S m C n L j i xs th) hmG (fun G R=>by kernel_rfl) ?_
   unfold vq25
   try dsimp only
   simp only[Ty.dflt,hj1,hi1,take_len,List.drop_zero,List.take_length,Mi_getD,Mi_len,Nt_Mi,Int.toNat_natCast,Mi_set,Nat.zero_add,Nat.sub_zero,orI_len,orW_len,hxv,h,orI_one,if_true,Bool.not_true,Bool.not_false]
   simp (disch:=omega) only[oo,oop,ne_eq,Ty.dflt,reduceCtorEq]
   repeat' (first|with_reducible refine And.intro ?_ ?_|intro _)
   all_goals first|rfl|omega|assumption|trivial|exact room3 (by omega)|(exfalso;simp_all;done)|(exfalso;omega)|skip
  ·have hk:keepI W m C (L.take (j+1).toNat)=keepI W m C (L.take j.toNat):=by rw[ht,keepI_append,keepI_one,if_neg (by rw[h];exact Bool.false_ne_true),List.append_nil]
   have hx:=ih (j+1) i xs th (by omega) (by omega) hxl hx0.2.symm (by rw[hk];exact htk) (by rw[ht,orI_append,←hth,orI_one,if_neg (by rw[h];exact Bool.false_ne_true)]) (by rw[hk];exact hi)
   rw[orI_one,if_neg (by rw[h];exact Bool.false_ne_true),h] at c1
   refine gets_vc spNa (fun k=> [0,1,5,6]) (fun _=> []) 400 (.fork (.fork (.hd 0) (.hd 0)) .stop) (V:=vq25 W S m C n L j i xs th) hmG (fun G R=>by kernel_rfl) ?_
   unfold vq25
   try dsimp only
   simp only[Ty.dflt,hj1,hi1,take_len,List.drop_zero,List.take_length,Mi_getD,Mi_len,Nt_Mi,Int.toNat_natCast,Mi_set,Nat.zero_add,Nat.sub_zero,orI_len,orW_len,hxv,h,orI_one,Bool.false_eq_true,if_false,Bool.not_true,Bool.not_false]
   simp (disch:=omega) only[oo,oop,ne_eq,Ty.dflt,reduceCtorEq]
   repeat' (first|with_reducible refine And.intro ?_ ?_|intro _)
   all_goals first|rfl|omega|assumption|trivial|exact room3 (by omega)|(exfalso;simp_all;done)|(exfalso;omega)|skip
theorem d123 (W:List (List Int)) (S:List Slt) (m:List Nat) (C:List Int) (n:Nat) (L:List Int) (th:List Nat) (hn:C.length=n) (F:LookOk W m C L) (hth:th.length=n) (hts:Smalls th):Con Tryd.prog 154 [.data 3 (.int .i64) L,.box 33 [.own 2 0 n (some n)],.data 22 (.int .u64) (Mi th)] [.own 0 0 L.length none,.fn 155 [envD W S m,.rptr [slI C],.ptr 1 0 0]] (.own 0 0 (keepI W m C L).length none) [some (.data 3 (.int .i64) (keepI W m C L++List.replicate (L.length-(keepI W m C L).length) 0)),some (.box 33 [.own 2 0 n (some n)]),some (.data 22 (.int .u64) (Mi (orI W m C th L)))] []:=by
 refine con_vc (how:=[none]) (c:=n123) (K:=(KK n123)) spNa (fun k=> [0,1,5,6]) (fun _=> []) 400 (.fork .stop (.hd 0)) (V:=fun G R=>let yy0:=(List.take L.length (List.drop 0 L));let yy1:=(Ty.int .i64);let yy2:=(Ty.int .u64);let yy3:=(Row.box 33 [D.own 2 0 n (some n)]);Con Tryd.prog 138 [Row.box 33 [D.own 1 0 n (some n)],Row.data 22 yy2 (Mi (Nt (Mi th)))] [D.sl false false yy1 yy0,D.fn 155 [D.rptr [D.rptr [D.sl false false yy1.sl W,D.sl false false (yy1.prod (Ty.bool.prod yy1.sl)) S,D.sl false false yy2 (Mi (Nt (Mi m))),D.top]],D.rptr [D.sl false false yy1 C],D.ptr 0 0 0]] (D.v (Value.int .i64 (findI (fun i=> !fitL (Nt (Mi m)) C (wordAt W i)) (0:Int) yy0))) [some (Row.box 33 [D.own 1 0 n (some n)]),some (Row.data 22 yy2 (Mi (orI W (Nt (Mi m)) C (Nt (Mi th)) (List.takeWhile (fun i=>fitL (Nt (Mi m)) C (wordAt W i)) yy0))))] []∧List.take L.length (List.drop 0 L)=List.take L.length (List.drop 0 L)∧W=W∧S=S∧Mi m=Mi (Nt (Mi m))∧C=C∧1=1∧0=0∧0=0∧(Mi (orI W (Nt (Mi m)) C (Nt (Mi th)) (List.takeWhile (fun i=>fitL (Nt (Mi m)) C (wordAt W i)) yy0))).length=(Mi (Nt (Mi th))).length∧some yy3=some yy3∧some (Row.data 22 yy2 (Mi th))=some (Row.data 22 yy2 (Mi (Nt (Mi th))))∧((findI (fun i=> !fitL (Nt (Mi m)) C (wordAt W i)) (0:Int) yy0==(-1:Int))=true→R (D.own 0 0 L.length none,[some (Row.data 3 yy1 L),some yy3,some (Row.data 22 yy2 (Mi (orI W (Nt (Mi m)) C (Nt (Mi th)) (List.takeWhile (fun i=>fitL (Nt (Mi m)) C (wordAt W i)) yy0))))],[]))∧((findI (fun i=> !fitL (Nt (Mi m)) C (wordAt W i)) (0:Int) yy0==(-1:Int))=false→SameK (KK n123 0) (KK n123 0)∧G 0 (stOf 42 [0,1,5,6] [D.own 0 0 L.length none,D.fn 155 [D.rptr [D.rptr [D.sl false false yy1.sl W,D.sl false false (yy1.prod (Ty.bool.prod yy1.sl)) S,D.sl false false yy2 (Mi m),D.top]],D.rptr [D.sl false false yy1 C],D.ptr 1 0 0],D.v (Value.int .i64 (findI (fun i=> !fitL (Nt (Mi m)) C (wordAt W i)) (0:Int) yy0)),D.v (Value.int .i64 (IntKind.i64.wrap (findI (fun i=> !fitL (Nt (Mi m)) C (wordAt W i)) (0:Int) yy0+(1:Int))))] [Slot.live (Row.data 3 yy1 L),Slot.live yy3,Slot.live (Row.data 22 yy2 (Mi (orI W (Nt (Mi m)) C (Nt (Mi th)) (List.takeWhile (fun i=>fitL (Nt (Mi m)) C (wordAt W i)) yy0))))]))) hmG Tryd.func154 (by kernel_rfl) (by kernel_rfl) (fun G R=>by kernel_rfl) ?_
 try dsimp only
 try dsimp only
 have hL:=F.long
 have c1:=d128t W S m C n L th hn F hth hts
 simp only[take_len,List.drop_zero,List.take_length,Mi_getD,Mi_len,Nt_Mi,Int.toNat_natCast,Mi_set,Nat.zero_add,Nat.sub_zero,orI_len,orW_len]
 rcases find_facts (fun i=> !fitL m C (wordAt W i)) L 0 (by omega) with⟨h1,h2⟩|⟨r,h1,h2,h3,h4⟩
 ·have hall:∀x∈L,fitL m C (wordAt W x)=true:=fun x hx=>by simpa using h2 x hx
  rw[takeWhile_all _ L hall] at c1⊢
  rw[h1] at c1⊢
  rw[keepI_all hall,Nat.sub_self,List.replicate_zero,List.append_nil]
  simp (disch:=omega) only[oo,oop,ne_eq,Ty.dflt,reduceCtorEq]
  repeat' (first|with_reducible refine And.intro ?_ ?_|intro _)
  all_goals first|rfl|omega|assumption|trivial|exact room3 (by omega)|(exfalso;simp_all;done)|(exfalso;omega)|skip
 ·have h5:fitL m C (wordAt W (L.getD r 0))=false:=by simpa using h3
  have hall:∀x∈L.take r,fitL m C (wordAt W x)=true:=fun x hx=>by simpa using h4 x hx
  rw[takeWhile_at _ 0 L r h2 h5 hall] at c1⊢
  rw[h1,Int.zero_add] at c1⊢
  have hr1:IntKind.i64.wrap ((r:Int)+1)=(r:Int)+1:=wrG (by omega) (by omega)
  have ht:=take_succ_at (0:Int) L (i:=(r:Int)) (by omega) (by omega)
  rw[Int.toNat_natCast] at ht
  have hk:keepI W m C (L.take ((r:Int)+1).toNat)=L.take r:=by rw[ht,keepI_append,keepI_one,if_neg (by rw[h5];exact Bool.false_ne_true),List.append_nil,keepI_all hall]
  have hx:=e123 W S m C n L hn F th hth hts (L.length-(r+1)) ((r:Int)+1) r L (orI W m C th (L.take r)) (by omega) (by omega) rfl rfl (by rw[hk,Int.toNat_natCast]) (by rw[ht,orI_append,orI_one,if_neg (by rw[h5];exact Bool.false_ne_true)]) (by rw[hk,List.length_take];omega)
  rw[hr1]
  have hne:((r:Int)== -1)=false:=by rw[beq_eq_false_iff_ne];omega
  rw[hne]
  simp (disch:=omega) only[oo,oop,ne_eq,Ty.dflt,reduceCtorEq]
  repeat' (first|with_reducible refine And.intro ?_ ?_|intro _)
  all_goals first|rfl|omega|assumption|trivial|exact room3 (by omega)|(exfalso;simp_all;done)|(exfalso;omega)|skip
theorem d98 (s:Int) (n k:Nat) (wt:List Bool) (td:List Int) (hn:wt.length=n) (hk:td.length=k) (hs:s<n) (hkk:k≤1000):Con Tryd.prog 144 [.box 44 [.own 1 0 n (some n)],.data 4 .bool wt,.box 27 [.own 3 0 k none],.data 3 (.int .i64) td] [.v (.int .i64 s),.ptr 0 0 0,.ptr 2 0 0] (.tup []) [some (.box 44 [.own 1 0 n (some n)]),some (.data 4 .bool (putF wt td s).1),some (.box 27 [.own 4 0 (putF wt td s).2.length none]),none] [.data 3 (.int .i64) (putF wt td s).2]:=by
 refine con_vc (how:=[]) (c:=n98) (K:=(KK n98)) spNa (fun _=> []) (fun k=> [⟨1000000002,3,.int .i64⟩]) 400 (.fork (.fork .stop .stop) (.f .stop)) (V:=fun G R=>(decide (s≥(0:Int))=true→(0:Int)≤s∧s< (↑n:Int)∧0+s.toNat<wt.length∧((!wt.getD (0+s.toNat) Ty.bool.dflt)=true→(0:Int)≤s∧s< (↑n:Int)∧0+s.toNat<wt.length∧roomy Tryd.prog 3 (k+1)∧R (D.tup [],[some (Row.box 44 [D.own 1 0 n (some n)]),some (Row.data 4 Ty.bool (wt.set (0+s.toNat) true)),some (Row.box 27 [D.own 4 0 (k+1) none]),none],[Row.data 3 (Ty.int .i64) (List.take (k+1) (List.drop 0 (List.take k (List.drop 0 td)++List.take 1 (List.drop 0 [s]))))]))∧((!wt.getD (0+s.toNat) Ty.bool.dflt)=false→R (D.tup [],[some (Row.box 44 [D.own 1 0 n (some n)]),some (Row.data 4 Ty.bool wt),some (Row.box 27 [D.own 4 0 k none]),none],[Row.data 3 (Ty.int .i64) (List.take k (List.drop 0 td))])))∧(decide (s≥(0:Int))=false→false=false∧R (D.tup [],[some (Row.box 44 [D.own 1 0 n (some n)]),some (Row.data 4 Ty.bool wt),some (Row.box 27 [D.own 4 0 k none]),none],[Row.data 3 (Ty.int .i64) (List.take k (List.drop 0 td))]))) hmG Tryd.func144 (by kernel_rfl) (by kernel_rfl) (fun G R=>by kernel_rfl) ?_
 try dsimp only
 simp only[Ty.dflt,Nat.zero_add,←hk,List.drop_zero,List.take_length,take_one,takeSn]
 by_cases h0:0≤s
 ·cases hs:wt.getD s.toNat false
  ·have e:putF wt td s=(wt.set s.toNat true,td++[s]):=if_pos ⟨h0,hs⟩
   rw[e]
   simp only[List.length_append,List.length_cons,List.length_nil,Nat.zero_add]
   simp (disch:=omega) only[oo,oop,ne_eq,Ty.dflt,reduceCtorEq]
   repeat' (first|with_reducible refine And.intro ?_ ?_|intro _)
   all_goals first|rfl|omega|assumption|trivial|exact room3 (by omega)|(exfalso;simp_all;done)|(exfalso;omega)|skip
  ·have e:putF wt td s=(wt,td):=if_neg (fun h=>by rw[hs] at h;exact absurd h.2 (by simp))
   rw[e]
   simp (disch:=omega) only[oo,oop,ne_eq,Ty.dflt,reduceCtorEq]
   repeat' (first|with_reducible refine And.intro ?_ ?_|intro _)
   all_goals first|rfl|omega|assumption|trivial|exact room3 (by omega)|(exfalso;simp_all;done)|(exfalso;omega)|skip
 ·have e:putF wt td s=(wt,td):=if_neg (fun h=>h0 h.1)
  rw[e]
  simp (disch:=omega) only[oo,oop,ne_eq,Ty.dflt,reduceCtorEq]
  repeat' (first|with_reducible refine And.intro ?_ ?_|intro _)
  all_goals first|rfl|omega|assumption|trivial|exact room3 (by omega)|(exfalso;simp_all;done)|(exfalso;omega)|skip
end Go.Proofs.YtnakmganodkliaaDoorAm
namespace Go.Proofs.YtnakmganodkliaaDoorAm
open Go
theorem wrap_and {a b:Nat} (ha:a<W64) (hb:b<W64):IntKind.u64.wrap (((BitVec.ofInt 64 (a:Int)&&&BitVec.ofInt 64 (b:Int)).toNat:Nat):Int)=((a&&&b:Nat):Int):=by
 rw[andU ha hb]
 exact wrU' (and_lt ha)
theorem takeL {α:Type} (a b:List α):(a++b).take a.length=a:=by simp
theorem rep_small (n:Nat):Smalls (List.replicate n 0):=by
 intro x hx
 rw[(List.mem_replicate.1 hx).2]
 decide
theorem cast_beq (a b:Nat):((a:Int)==(b:Int))=(a==b):=by
 apply Bool.eq_iff_iff.2
 simp only[beq_iff_eq]
 omega
theorem may_snoc (W:List (List Int)) (S:List Slt) (s:Slt):mayF W (S++[s])=mayF W S++[idxF (fun w=>w.length==s.2.2.length) 0 W]:=by simp[mayF]
theorem may_len (W:List (List Int)) (S:List Slt):(mayF W S).length=S.length:=by simp[mayF]
end Go.Proofs.YtnakmganodkliaaDoorAm
namespace Go.Proofs.YtnakmganodkliaaDoorAm
open Go
theorem word_at {P V:List (List Int)} {v:List Int}:wordAt (P++v::V) (P.length:Int)=v:=by
 unfold wordAt
 rw[Int.toNat_natCast,List.getD_eq_getElem?_getD,List.getElem?_append_right (Nat.le_refl _)]
 simp
theorem idx_filter_gen (f g:List Int→Bool):∀(V P:List (List Int)),(idxF f (P.length:Int) V).filter (fun x=>g (wordAt (P++V) x))=idxF (fun w=>f w&&g w) (P.length:Int) V
 | [],_=>rfl
 |v::V,P=>by
  have ih:=idx_filter_gen f g V (P++[v])
  rw[List.length_append,List.length_cons,List.length_nil,List.append_assoc,List.singleton_append] at ih
  have e:(((P.length+(0+1):Nat)):Int)=(P.length:Int)+1:=by omega
  rw[e] at ih
  simp only[idxF]
  rcases Bool.eq_false_or_eq_true (f v) with hf|hf
  ·rcases Bool.eq_false_or_eq_true (g v) with hg|hg
   ·simp only[hf,hg,if_true,List.filter_cons,word_at,Bool.true_and,ih]
   ·simp only[hf,hg,if_true,List.filter_cons,word_at,Bool.true_and,Bool.false_eq_true,if_false,ih]
  ·simp only[hf,Bool.false_and,Bool.false_eq_true,if_false,ih]
theorem idx_filter (f g:List Int→Bool) (W:List (List Int)):(idxF f 0 W).filter (fun x=>g (wordAt W x))=idxF (fun w=>f w&&g w) 0 W:=idx_filter_gen f g W []
theorem idx_map_gen (f:List Int→Bool):∀(V P:List (List Int)),(idxF f (P.length:Int) V).map (wordAt (P++V))=V.filter f
 | [],_=>rfl
 |v::V,P=>by
  have ih:=idx_map_gen f V (P++[v])
  rw[List.length_append,List.length_cons,List.length_nil,List.append_assoc,List.singleton_append] at ih
  have e:(((P.length+(0+1):Nat)):Int)=(P.length:Int)+1:=by omega
  rw[e] at ih
  simp only[idxF,List.filter_cons]
  rcases Bool.eq_false_or_eq_true (f v) with hf|hf
  ·simp only[hf,if_true,List.map_cons,word_at,ih]
  ·simp only[hf,Bool.false_eq_true,if_false,ih]
theorem idx_map (f:List Int→Bool) (W:List (List Int)):(idxF f 0 W).map (wordAt W)=W.filter f:=idx_map_gen f W []
theorem idx_range (f:List Int→Bool):∀(V:List (List Int)) (i:Int),∀x∈idxF f i V,i≤x∧x<i+V.length
 | [],_,x,h=>by simp[idxF] at h
 |v::V,i,x,h=>by
  simp only[idxF] at h
  have ih:=idx_range f V (i+1)
  have e:((v::V).length:Int)=V.length+1:=by simp
  split at h
  ·rcases List.mem_cons.1 h with h|h
   ·subst h;omega
   ·have:=ih x h;omega
  ·have:=ih x h;omega
theorem idx_word {f:List Int→Bool} {W:List (List Int)} {x:Int} (h:x∈idxF f 0 W):0≤x∧x<W.length∧wordAt W x∈W∧f (wordAt W x)=true:=by
 have h1:=idx_range f W 0 x h
 have h2:wordAt W x∈W.filter f:=by rw[←idx_map];exact List.mem_map_of_mem h
 rw[List.mem_filter] at h2
 exact⟨h1.1,by omega,h2.1,h2.2⟩
theorem keep_idx {W:List (List Int)} {m:List Nat} {C:List Int} {f:List Int→Bool} (h:∀w,fitL m C w=true→f w=true):keepI W m C (idxF f 0 W)=idxF (fitL m C) 0 W:=by
 unfold keepI
 rw[idx_filter f (fitL m C)]
 refine idx_same fun w _=> ?_
 cases hw:fitL m C w with
 |false=>simp
 |true=>rw[h w hw];rfl
theorem orW_get:∀(w:List Int) (k:Nat) (th:List Nat) (j:Nat),j<th.length→(orW k w th).getD j 0=if k≤j∧j-k<w.length then th.getD j 0|||bitN (w.getD (j-k) 0) else th.getD j 0
 | [],k,th,j,h=>by simp[orW]
 |c::w,k,th,j,h=>by
  simp only[orW]
  rw[orW_get w (k+1) _ j (by simpa using h)]
  by_cases e:k=j
  ·subst e
   rw[if_neg (by omega),if_pos (by simp),getD_set_nat,if_pos ⟨rfl,h⟩]
   simp
  ·have hs:(th.set k (th.getD k 0|||bitN c)).getD j 0=th.getD j 0:=by rw[getD_set_nat,if_neg (fun q=>e q.1)]
   rw[hs]
   by_cases e2:k+1≤j∧j-(k+1)<w.length
   ·rw[if_pos e2,if_pos (by simp;omega)]
    rw[show j-k=(j-(k+1))+1 by omega,List.getD_cons_succ]
   ·rw[if_neg e2,if_neg (by simp;omega)]
theorem orI_get (W:List (List Int)) (m:List Nat) (C:List Int) (j:Nat) (hj:j<C.length):∀(l:List Int) (th:List Nat),j<th.length→(∀x∈l,(wordAt W x).length=C.length∧∀c∈wordAt W x,0≤c∧c<64)→(orI W m C th l).getD j 0=ofA (th.getD j 0) ((keepI W m C l).map fun x=>(wordAt W x).getD j 0)
 | [],th,_,_=>rfl
 |x::l,th,ht,h=>by
  have hx:=h x List.mem_cons_self
  have hl:=fun y hy=>h y (List.mem_cons_of_mem x hy)
  rw[orI_cons,show x::l=[x]++l from rfl,keepI_append,keepI_one]
  cases hf:fitL m C (wordAt W x) with
  |false=>simpa using orI_get W m C j hj l th ht hl
  |true=>
   simp only[if_true,List.singleton_append,List.map_cons]
   rw[orI_get W m C j hj l _ (by rw[orW_len];exact ht) hl,orW_get _ _ _ _ ht,if_pos ⟨by omega,by omega⟩]
   have hc:=hx.2 ((wordAt W x).getD j 0) (getD_in (by omega))
   simp only[Nat.sub_zero,ofA]
   congr 1
   unfold bitN
   rw[if_neg (by omega)]
   first|rfl|(rw[if_pos (by omega)])|(simp;omega)
theorem there_look {W:List (List Int)} {m:List Nat} {C:List Int} {f:List Int→Bool} (hW:∀w∈W,∀c∈w,0≤c∧c<64) (h1:∀w,fitL m C w=true→f w=true) (h2:∀w,f w=true→w.length=C.length) {k:Nat} (hk:k<C.length):(thereI W m C (idxF f 0 W)).getD k 0=thereF W (fitL m C) k:=by
 unfold thereI
 rw[orI_get W m C k hk _ _ (by simpa using hk) (fun x hx=> ?_),keep_idx h1]
 ·have e:(List.replicate C.length 0).getD k 0=0:=by
   rw[List.getD_eq_getElem?_getD,List.getElem?_replicate]
   split<;>rfl
  rw[e]
  unfold thereF ofN
  rw[←idx_map,List.map_map]
  rfl
 ·obtain⟨_,_,hw,hf⟩:=idx_word hx
  exact⟨h2 _ hf,hW _ hw⟩
theorem meet_same {a b:Nat→Nat}:∀{cs:List Int} {k:Nat} {m:List Nat},(∀j,k≤j→j<k+cs.length→a j=b j)→meetL a k cs m=meetL b k cs m
 | [],_,_,_=>rfl
 |c::cs,k,m,h=>by
  simp only[meetL]
  rw[h k (Nat.le_refl _) (by simp),meet_same fun j h1 h2=>h j (by omega) (by simp;omega)]
theorem look_same {W:List (List Int)} {m:List Nat} {s:Slt} {f:List Int→Bool} (hW:∀w∈W,∀c∈w,0≤c∧c<64) (h1:∀w,fitL m s.2.2 w=true→f w=true) (h2:∀w,f w=true→w.length=s.2.2.length):lookC W m s.2.2 (idxF f 0 W)=lookF W m s:=by
 unfold lookC lookF
 exact meet_same fun j _ hj=>there_look hW h1 h2 (by omega)
theorem lost_sub (th:List Nat):∀(cs:List Int) (k:Nat) (m:List Nat),∀x∈lostL th k cs m,x∈cs
 | [],_,_,x,h=>by simp[lostL] at h
 |c::cs,k,m,x,h=>by
  simp only[lostL] at h
  split at h
  ·exact List.mem_cons_of_mem _ (lost_sub th cs _ _ x h)
  ·rcases List.mem_cons.1 h with h|h
   ·rw[h];exact List.mem_cons_self
   ·exact List.mem_cons_of_mem _ (lost_sub th cs _ _ x h)
theorem lost_mem (th:List Nat):∀(cs:List Int) (k:Nat) (m:List Nat) (j:Nat),(meetL (fun k=>th.getD k 0) k cs m).getD j 0≠m.getD j 0→∃x∈lostL th k cs m,x.toNat=j
 | [],_,_,j,h=>absurd rfl h
 |c::cs,k,m,j,h=>by
  simp only[meetL,lostL] at h⊢
  by_cases e:m.getD c.toNat 0&&&th.getD k 0=m.getD c.toNat 0
  ·rw[if_pos e]
   rw[e,set_same 0] at h
   exact lost_mem th cs (k+1) m j h
  ·rw[if_neg e]
   by_cases hj:c.toNat=j
   ·exact⟨c,List.mem_cons_self,hj⟩
   ·have e2:(m.set c.toNat (m.getD c.toNat 0&&&th.getD k 0)).getD j 0=m.getD j 0:=by
     rw[getD_set_nat,if_neg (fun q=>hj q.1)]
    rw[←e2] at h
    obtain⟨x,hx,hxj⟩:=lost_mem th cs (k+1) _ j h
    exact⟨x,List.mem_cons_of_mem _ hx,hxj⟩
theorem sum_le {a b:List Nat} (hl:a.length=b.length) (h:∀c,a.getD c 0≤b.getD c 0):a.sum≤b.sum:=by
 by_cases e:a=b
 ·rw[e];exact Nat.le_refl _
 ·exact Nat.le_of_lt (sum_lt hl h e)
theorem meet_le (th:Nat→Nat) (cs:List Int) (k:Nat) (m:List Nat) (c:Nat):(meetL th k cs m).getD c 0≤m.getD c 0:=sub_le fun i hi=>((meet_bits th cs k m c i).1 hi).1
theorem lost_sum (th:List Nat):∀(cs:List Int) (k:Nat) (m:List Nat),(∀c∈cs,c.toNat<m.length)→lostL th k cs m≠ []→(meetL (fun k=>th.getD k 0) k cs m).sum<m.sum
 | [],_,_,_,h=>absurd rfl h
 |c::cs,k,m,hc,h=>by
  simp only[meetL,lostL] at h⊢
  by_cases e:m.getD c.toNat 0&&&th.getD k 0=m.getD c.toNat 0
  ·rw[if_pos e] at h
   rw[e,set_same 0]
   exact lost_sum th cs (k+1) m (fun x hx=>hc x (List.mem_cons_of_mem _ hx)) h
  ·have h1:(meetL (fun k=>th.getD k 0) (k+1) cs (m.set c.toNat (m.getD c.toNat 0&&&th.getD k 0))).sum≤(m.set c.toNat (m.getD c.toNat 0&&&th.getD k 0)).sum:=sum_le (meet_len _ _ _ _) (meet_le _ _ _ _)
   have h2:(m.set c.toNat (m.getD c.toNat 0&&&th.getD k 0)).sum<m.sum:=by
    refine sum_lt (by simp) (fun j=> ?_) (fun q=>e ?_)
    ·rw[getD_set_nat]
     split
     ·rename_i q;rw[←q.1];exact Nat.and_le_left
     ·exact Nat.le_refl _
    ·have:=congrArg (fun l=>l.getD c.toNat 0) q
     rw[getD_set_nat,if_pos ⟨rfl,hc c List.mem_cons_self⟩] at this
     exact this
   omega
theorem lost_nil (th:List Nat) (cs:List Int) (k:Nat) (m:List Nat) (h:lostL th k cs m=[]):meetL (fun k=>th.getD k 0) k cs m=m:=by
 refine list_ext_getD 0 (meet_len _ _ _ _) fun j hj=> ?_
 by_cases e:(meetL (fun k=>th.getD k 0) k cs m).getD j 0=m.getD j 0
 ·exact e
 ·obtain⟨x,hx,_⟩:=lost_mem th cs k m j e
  rw[h] at hx
  simp at hx
def cntT:List Bool→Nat
 | []=>0
 |b::l=>(if b then 1 else 0)+cntT l
theorem cnt_le:∀(l:List Bool),cntT l≤l.length
 | []=>Nat.le_refl _
 |b::l=>by simp only[cntT,List.length_cons];have:=cnt_le l;split<;>omega
theorem cnt_set:∀(l:List Bool) (i:Nat) (b:Bool),i<l.length→cntT (l.set i b)+(if l.getD i false then 1 else 0)=cntT l+(if b then 1 else 0)
 | [],i,b,h=>by simp at h
 |a::l,0,b,_=>by simp only[List.set_cons_zero,cntT,List.getD_cons_zero];omega
 |a::l,i+1,b,h=>by
  simp only[List.set_cons_succ,cntT,List.getD_cons_succ]
  have:=cnt_set l i b (by simpa using h)
  omega
structure Queue (wt:List Bool) (td:List Int) (N:Nat):Prop where
 len:wt.length=N
 nodup:td.Nodup
 mem:∀s∈td,0≤s∧s<N∧wt.getD s.toNat false=true
 all:∀j,wt.getD j false=true→(j:Int)∈td
 cnt:td.length=cntT wt
theorem Queue.long {wt:List Bool} {td:List Int} {N:Nat} (q:Queue wt td N):td.length≤N:=by
 rw[q.cnt,←q.len]
 exact cnt_le wt
theorem getD_set_bool (l:List Bool) (c:Nat) (v:Bool) (d:Nat):(l.set c v).getD d false=if c=d∧c<l.length then v else l.getD d false:=getD_set_gen false l c v d
theorem put_queue {wt:List Bool} {td:List Int} {N:Nat} {s:Int} (q:Queue wt td N) (hs:s<N):Queue (putF wt td s).1 (putF wt td s).2 N∧(∀j,wt.getD j false=true→(putF wt td s).1.getD j false=true)∧(0≤s→(putF wt td s).1.getD s.toNat false=true):=by
 unfold putF
 by_cases h:0≤s∧wt.getD s.toNat false=false
 ·rw[if_pos h]
  have hl:s.toNat<wt.length:=by rw[q.len];omega
  refine⟨⟨by simp[q.len],?_,?_,?_,?_⟩,?_,?_⟩
  ·rw[List.nodup_append]
   refine⟨q.nodup,by simp,?_⟩
   intro a ha b hb e
   rw[List.mem_singleton] at hb
   subst hb
   subst e
   have:=(q.mem a ha).2.2
   rw[h.2] at this
   cases this
  ·intro a ha
   rcases List.mem_append.1 ha with ha|ha
   ·have:=q.mem a ha
    refine⟨this.1,this.2.1,?_⟩
    rw[getD_set_bool]
    split
    ·rfl
    ·exact this.2.2
   ·rw[List.mem_singleton] at ha
    subst ha
    exact⟨h.1,hs,by rw[getD_set_bool,if_pos ⟨rfl,hl⟩]⟩
  ·intro j hj
   rw[getD_set_bool] at hj
   rw[List.mem_append]
   split at hj
   ·rename_i e
    right
    rw[List.mem_singleton]
    omega
   ·exact .inl (q.all j hj)
  ·show(td++[s]).length=cntT (wt.set s.toNat true)
   rw[List.length_append,List.length_cons,List.length_nil,q.cnt]
   have:=cnt_set wt s.toNat true hl
   rw[h.2] at this
   simp only[Bool.false_eq_true,if_false,if_true] at this
   omega
  ·intro j hj
   show(wt.set s.toNat true).getD j false=true
   rw[getD_set_bool]
   split
   ·rfl
   ·exact hj
  ·intro _
   show(wt.set s.toNat true).getD s.toNat false=true
   rw[getD_set_bool,if_pos ⟨rfl,hl⟩]
 ·rw[if_neg h]
  refine⟨q,fun j hj=>hj,fun h0=> ?_⟩
  show wt.getD s.toNat false=true
  cases e:wt.getD s.toNat false with
  |true=>rfl
  |false=>exact absurd ⟨h0,e⟩ h
theorem pop_queue {wt:List Bool} {td:List Int} {N:Nat} {s:Int} (q:Queue wt (s::td) N):Queue (wt.set s.toNat false) td N:=by
 have hs:=q.mem s List.mem_cons_self
 have hl:s.toNat<wt.length:=by rw[q.len];omega
 have hn:=List.nodup_cons.1 q.nodup
 refine⟨by simp[q.len],hn.2,?_,?_,?_⟩
 ·intro a ha
  have h1:=q.mem a (List.mem_cons_of_mem _ ha)
  refine⟨h1.1,h1.2.1,?_⟩
  rw[getD_set_bool,if_neg ?_]
  ·exact h1.2.2
  ·rintro⟨e,_⟩
   have:s=a:=by omega
   rw[this] at hn
   exact hn.1 ha
 ·intro j hj
  rw[getD_set_bool] at hj
  split at hj
  ·cases hj
  ·rename_i e
   rcases List.mem_cons.1 (q.all j hj) with h|h
   ·exact absurd ⟨by omega,hl⟩ e
   ·exact h
 ·have h1:=q.cnt
  have h2:=cnt_set wt s.toNat false hl
  rw[hs.2.2] at h2
  simp only[if_true,Bool.false_eq_true,if_false,List.length_cons] at h1 h2
  omega
def putsF (A D:List (Int×Int)):List Int→List Bool×List Int→List Bool×List Int
 | [],q=>q
 |c::cs,q=>putsF A D cs (putF (putF q.1 q.2 (A.getD c.toNat (-1,0)).1).1 (putF q.1 q.2 (A.getD c.toNat (-1,0)).1).2 (D.getD c.toNat (-1,0)).1)
theorem puts_queue {A D:List (Int×Int)} {N:Nat} (hA:∀c:Nat,(A.getD c (-1,0)).1<N) (hD:∀c:Nat,(D.getD c (-1,0)).1<N):∀(cs:List Int) (wt:List Bool) (td:List Int),Queue wt td N→Queue (putsF A D cs (wt,td)).1 (putsF A D cs (wt,td)).2 N∧(∀j,wt.getD j false=true→(putsF A D cs (wt,td)).1.getD j false=true)∧
  ∀c∈cs,∀j:Nat,((A.getD c.toNat (-1,0)).1=j∨(D.getD c.toNat (-1,0)).1=j)→(putsF A D cs (wt,td)).1.getD j false=true
 | [],wt,td,q=>⟨q,fun j h=>h,fun c hc=>by simp at hc⟩
 |c::cs,wt,td,q=>by
  obtain⟨q1,g1,p1⟩:=put_queue q (hA c.toNat)
  obtain⟨q2,g2,p2⟩:=put_queue q1 (hD c.toNat)
  obtain⟨q3,g3,p3⟩:=puts_queue hA hD cs _ _ q2
  refine⟨q3,fun j h=>g3 j (g2 j (g1 j h)),fun x hx j hj=> ?_⟩
  rcases List.mem_cons.1 hx with hx|hx
  ·subst hx
   refine g3 j ?_
   rcases hj with hj|hj
   ·refine g2 j ?_
    have:=p1 (by rw[hj];omega)
    rw[show((A.getD x.toNat (-1,0)).1).toNat=j by rw[hj];exact Int.toNat_natCast j] at this
    exact this
   ·have:=p2 (by rw[hj];omega)
    rw[show((D.getD x.toNat (-1,0)).1).toNat=j by rw[hj];exact Int.toNat_natCast j] at this
    exact this
  ·exact p3 x hx j hj
abbrev sAtN (S:List Slt) (j:Nat):Slt:=S.getD j (0,false,[])
structure Inv (W:List (List Int)) (S:List Slt) (m0 m:List Nat) (ms:List (List Int)) (wt:List Bool) (td:List Int):Prop where
 len:m.length=m0.length
 lo:Leq (gfpF W S m0) m
 hi:Leq m m0
 may:ms.length=S.length
 ok:∀j,j<S.length→∃f:List Int→Bool,ms.getD j []=idxF f 0 W∧(∀w,fitL m (sAtN S j).2.2 w=true→f w=true)∧∀w,f w=true→w.length=(sAtN S j).2.2.length
 fine:∀j,j<S.length→wt.getD j false=false→Stable1 W m (sAtN S j)∧ms.getD j []=idxF (fitL m (sAtN S j).2.2) 0 W
 q:Queue wt td S.length
theorem Inv.done {W:List (List Int)} {S:List Slt} {m0 m:List Nat} {ms:List (List Int)} {wt:List Bool} (I:Inv W S m0 m ms wt []):m=gfpF W S m0∧ms=wordsF W S m:=by
 have hw:∀j,wt.getD j false=false:=fun j=>by
  cases e:wt.getD j false with
  |false=>rfl
  |true=>have:=I.q.all j e;simp at this
 constructor
 ·refine gfp_eq I.len (fun s hs=> ?_) I.hi I.lo
  obtain⟨j,hj,e⟩:=List.getElem_of_mem hs
  have:=(I.fine j hj (hw j)).1
  rw[show sAtN S j=s by rw[←e];simp[sAtN,List.getD_eq_getElem?_getD,hj]] at this
  exact this
 ·refine list_ext_getD [] (by rw[I.may];simp[wordsF]) fun j hj=> ?_
  have hj':j<S.length:=by rw[←I.may];exact hj
  rw[(I.fine j hj' (hw j)).2]
  unfold wordsF
  simp[List.getD_eq_getElem?_getD,hj',sAtN]
structure Board (W:List (List Int)) (S:List Slt) (n:Nat) (A D:List (Int×Int)):Prop where
 letters:∀w∈W,∀c∈w,0≤c∧c<64
 cells:∀j,j<S.length→∀c∈(sAtN S j).2.2,0≤c∧c<n
 once:∀j,j<S.length→OnceS (sAtN S j)
 seat:∀j,j<S.length→∀c∈(sAtN S j).2.2,(A.getD c.toNat (-1,0)).1=j∨(D.getD c.toNat (-1,0)).1=j
 inA:∀c:Nat,(A.getD c (-1,0)).1<S.length
 inD:∀c:Nat,(D.getD c (-1,0)).1<S.length
theorem Inv.step {W:List (List Int)} {S:List Slt} {m0 m:List Nat} {ms:List (List Int)} {wt:List Bool} {s:Int} {td:List Int} {A D:List (Int×Int)} (B:Board W S m0.length A D) (I:Inv W S m0 m ms wt (s::td))
  {C l:List Int} (hC:(slotAt S s).2.2=C) (hl:ms.getD s.toNat []=l):
  Inv W S m0 (lookC W m C l) (ms.set s.toNat (keepI W m C l)) (putsF A D (lostC W m C l) (wt.set s.toNat false,td)).1 (putsF A D (lostC W m C l) (wt.set s.toNat false,td)).2∧
  (lookC W m C l).sum*(S.length+1)+(putsF A D (lostC W m C l) (wt.set s.toNat false,td)).2.length<m.sum*(S.length+1)+(td.length+1):=by
 have hs:=I.q.mem s List.mem_cons_self
 have hj:s.toNat<S.length:=by omega
 obtain⟨f,hf,hf1,hf2⟩:=I.ok s.toNat hj
 have hsl:sAtN S s.toNat=slotAt S s:=rfl
 have hlf:l=idxF f 0 W:=by rw[←hl,hf]
 rw[hsl,hC] at hf1 hf2
 have hlook:lookC W m C l=lookF W m (slotAt S s):=by
  rw[hlf,←hC]
  rw[←hC] at hf1 hf2
  exact look_same B.letters hf1 hf2
 have hkeep:keepI W m C l=idxF (fitL m C) 0 W:=by rw[hlf];exact keep_idx hf1
 have hon:OnceS (slotAt S s):=B.once s.toNat hj
 have q1:=pop_queue I.q
 obtain⟨q2,g2,p2⟩:=puts_queue B.inA B.inD (lostC W m C l) _ _ q1
 have hleq:Leq (lookC W m C l) m:=by rw[hlook];exact look_leq W m _
 have hfit:∀w∈W,fitL (lookC W m C l) C w=fitL m C w:=fun w hw=>by
  rw[hlook]
  have:=look_fit (m:=m) hon hw
  rw[hC] at this
  exact this
 have hcells:∀c∈C,c.toNat<m.length:=fun c hc=>by
  have:=B.cells s.toNat hj c (by rw[hsl,hC];exact hc)
  rw[I.len]
  omega
 have hsame:∀j,j<S.length→(putsF A D (lostC W m C l) (wt.set s.toNat false,td)).1.getD j false=false→∀c∈(sAtN S j).2.2,m.getD c.toNat 0=(lookC W m C l).getD c.toNat 0:=by
  intro j hj2 hw c hc
  by_cases e:(lookC W m C l).getD c.toNat 0=m.getD c.toNat 0
  ·exact e.symm
  ·exfalso
   obtain⟨x,hx,hxc⟩:=lost_mem (thereI W m C l) C 0 m c.toNat e
   have:=p2 x hx j (by rw[hxc];exact B.seat j hj2 c hc)
   rw[hw] at this
   cases this
 refine⟨⟨?_,?_,hleq.trans I.hi,by simp[I.may],?_,?_,q2⟩,?_⟩
 ·rw[hlook,look_len,I.len]
 ·rw[hlook]
  refine look_below ?_ I.lo
  have:=gfp_stable W S m0 (slotAt S s) (by
   unfold slotAt
   exact getD_in hj)
  exact this
 ·intro j hj2
  by_cases e:s.toNat=j
  ·subst e
   refine⟨fitL m C,?_,fun w hw=> ?_,fun w hw=> ?_⟩
   ·rw[getD_set_gen,if_pos ⟨rfl,by rw[I.may];exact hj⟩,hkeep]
   ·rw[hsl,hC] at hw
    exact fit_mono hleq hw
   ·rw[hsl,hC]
    exact((fit_iff m C w).1 hw).1
  ·obtain⟨f',h1,h2,h3⟩:=I.ok j hj2
   refine⟨f',?_,fun w hw=>h2 w (fit_mono hleq hw),h3⟩
   rw[getD_set_gen,if_neg (fun q=>e q.1)]
   exact h1
 ·intro j hj2 hw
  have hkept:=hsame j hj2 hw
  by_cases e:s.toNat=j
  ·subst e
   rw[getD_set_gen,if_pos ⟨rfl,by rw[I.may];exact hj⟩,hkeep]
   constructor
   ·rw[hlook]
    exact look_stable hon
   ·rw[hsl,hC]
    exact(idx_same fun w hw=>hfit w hw).symm
  ·have hw0:wt.getD j false=false:=by
    cases e2:wt.getD j false with
    |false=>rfl
    |true=>
     have:=g2 j (by rw[getD_set_bool,if_neg (fun q=>e q.1)];exact e2)
     rw[hw] at this
     cases this
   obtain⟨h1,h2⟩:=I.fine j hj2 hw0
   rw[getD_set_gen,if_neg (fun q=>e q.1)]
   refine⟨stable_keep hkept h1,?_⟩
   rw[h2]
   exact idx_same fun w _=>fit_keep hkept w
 ·have hql:=q2.long
  by_cases e:lostC W m C l=[]
  ·have e2:lookC W m C l=m:=lost_nil _ _ _ _ e
   rw[e,e2]
   show m.sum*(S.length+1)+td.length<_
   omega
  ·have e2:(lookC W m C l).sum<m.sum:=lost_sum _ _ _ _ hcells e
   have e3:((lookC W m C l).sum+1)*(S.length+1)≤m.sum*(S.length+1):=Nat.mul_le_mul_right _ e2
   rw[Nat.add_mul] at e3
   omega
end Go.Proofs.YtnakmganodkliaaDoorAm
set_option maxRecDepth 100000
namespace Go.Proofs.YtnakmganodkliaaDoorAm
open Go
def vq26 (W:List (List Int)) (S:List Slt) (m:List Nat) (ms:List (List Int)) (C:List Int) (th:List Nat) (ns:List (List Int)) (k:Int) (mm:List Nat) (lo:List Int) (G:Nat→St→Prop) (R:D×List (Option Row)×List Row→Prop):Prop:=let yy0:=(Ty.int .i64);let yy1:=(↑(BitVec.ofInt 64 ((Mi mm).getD (0+Int.toNat (C.getD k.toNat yy0.dflt)) (Ty.int .u64).dflt)&&&BitVec.ofInt 64 ((Mi th).getD (0+k.toNat) (Ty.int .u64).dflt)).toNat:Int);let yy2:=(Row.box 176 [D.sl false false yy0.sl W,D.sl false false (yy0.prod (Ty.bool.prod yy0.sl)) S,D.own 1 0 m.length (some m.length),D.own 2 0 ms.length none]);let yy3:=(C.getD k.toNat yy0.dflt);let yy4:=(Ty.int .u64);let yy5:=(Row.nest (NK.mk 27 yy0.sl 0 3 yy0) ns none);let yy6:=(↑C.length:Int);(decide (k<yy6)=true→(0:Int)≤k∧k<yy6∧(0:Int)≤C.getD k.toNat yy0.dflt∧C.getD k.toNat yy0.dflt< (↑m.length:Int)∧0+Int.toNat yy3< (Mi mm).length∧(0:Int)≤k∧k<yy6∧0+k.toNat< (Mi th).length∧(0:Int)≤C.getD k.toNat yy0.dflt∧C.getD k.toNat yy0.dflt< (↑m.length:Int)∧0+Int.toNat yy3< (Mi mm).length∧((IntKind.u64.wrap yy1 !=(Mi mm).getD (0+Int.toNat yy3) yy4.dflt)=true→(0:Int)≤C.getD k.toNat yy0.dflt∧C.getD k.toNat yy0.dflt< (↑m.length:Int)∧0+Int.toNat yy3< (Mi mm).length∧roomy Tryd.prog 3 (lo.length+1)∧SameK (KK n99 0) (KK n99 0)∧G 0 (stOf 78 [2,6,7,37,38,39] [D.ptr 3 0 0,D.ptr 4 0 0,D.own 5 0 (lo.length+1) none,D.sl false false yy0 C,D.v (Value.int .i64 yy6),D.v (Value.int .i64 (IntKind.i64.wrap (k+(1:Int))))] [Slot.live yy2,Slot.live (Row.data 22 yy4 ((Mi mm).set (0+Int.toNat yy3) (IntKind.u64.wrap yy1))),Slot.live yy5,Slot.live (Row.box 173 [D.ptr 0 0 0]),Slot.live (Row.box 33 [D.own 6 0 C.length (some C.length)]),Slot.live (Row.data 3 yy0 (List.take lo.length (List.drop 0 lo)++List.take 1 (List.drop 0 [C.getD k.toNat yy0.dflt]))),Slot.live (Row.data 22 yy4 (Mi th))]))∧((IntKind.u64.wrap yy1 !=(Mi mm).getD (0+Int.toNat yy3) yy4.dflt)=false→SameK (KK n99 0) (KK n99 0)∧G 0 (stOf 78 [2,6,7,37,38,39] [D.ptr 3 0 0,D.ptr 4 0 0,D.own 5 0 lo.length none,D.sl false false yy0 C,D.v (Value.int .i64 yy6),D.v (Value.int .i64 (IntKind.i64.wrap (k+(1:Int))))] [Slot.live yy2,Slot.live (Row.data 22 yy4 (Mi mm)),Slot.live yy5,Slot.live (Row.box 173 [D.ptr 0 0 0]),Slot.live (Row.box 33 [D.own 6 0 C.length (some C.length)]),Slot.live (Row.data 3 yy0 lo),Slot.live (Row.data 22 yy4 (Mi th))])))∧(decide (k<yy6)=false→R (D.own 3 0 lo.length none,[some yy2,some (Row.data 22 yy4 (Mi mm)),some yy5],[Row.data 3 yy0 lo]))
theorem e99 (W:List (List Int)) (S:List Slt) (m:List Nat) (ms:List (List Int)) (s:Int) (C:List Int) (th:List Nat) (ns:List (List Int)) (hth:th.length=C.length) (hts:Smalls th) (hC:∀c∈C,0≤c∧c<m.length) (hn:C.length≤300) (mE:List Nat) (loE:List Int) (z:Nat):∀(k:Int) (mm:List Nat) (lo:List Int),0≤k→k+z=C.length→mm.length=m.length→Smalls mm→lo.length≤k→meetL (fun k=>th.getD k 0) k.toNat (C.drop k.toNat) mm=mE→lo++lostL th k.toNat (C.drop k.toNat) mm=loE→GetsK Tryd.prog Tryd.f145.results.toList [none] (KK n99) 3 (.own 3 0 loE.length none,[some (.box 176 [slW W,slS S,.own 1 0 m.length (some m.length),.own 2 0 ms.length none]),some (.data 22 (.int .u64) (Mi mE)),some (.nest kW ns none)],[.data 3 (.int .i64) loE]) 0 (stOf 78 [2,6,7,37,38,39] [.ptr 3 0 0,.ptr 4 0 0,.own 5 0 lo.length none,slI C,.v (.int .i64 C.length),.v (.int .i64 k)] [.live (.box 176 [slW W,slS S,.own 1 0 m.length (some m.length),.own 2 0 ms.length none]),.live (.data 22 (.int .u64) (Mi mm)),.live (.nest kW ns none),.live (.box 173 [.ptr 0 0 0]),.live (.box 33 [.own 6 0 C.length (some C.length)]),.live (.data 3 (.int .i64) lo),.live (.data 22 (.int .u64) (Mi th))]):=by
 induction z with
 |zero=>
  intro k mm lo k0 hk hml hms hlo he hl
  rw[List.drop_eq_nil_of_le (by omega)] at he hl
  have he:mm=mE:=he
  have hl:lo=loE:=by simpa [lostL] using hl
  subst he;subst hl
  refine gets_vc (flag [2000033] spNa) (fun k=> [2,6,7,37,38,39]) (fun k=>if k=0 then [⟨7,3,.int .i64⟩] else [⟨4,3,.int .i64⟩]) 400 (.fork (.fork (.hd 0) (.hd 0)) .stop) (V:=vq26 W S m ms C th ns k mm lo) hmG (fun G R=>by kernel_rfl) ?_
  unfold vq26
  try dsimp only
  simp (disch:=omega) only[oo,oop,ne_eq,Ty.dflt,reduceCtorEq]
  repeat' (first|with_reducible refine And.intro ?_ ?_|intro _)
  all_goals first|rfl|omega|assumption|trivial|exact room3 (by omega)|exact room46 (by omega)|(exfalso;simp_all;done)|(exfalso;omega)|skip
 |succ z ih=>
  intro k mm lo k0 hk hml hms hlo he hl
  have hd:=drop_at (xs:=C) (i:=k) (0:Int) k0 (by omega)
  rw[hd] at he hl
  simp only[meetL,lostL] at he hl
  have hc:=hC _ (getD_in (d:=0) (k:=k.toNat) (l:=C) (by omega))
  obtain⟨c,hcc⟩:∃c,C.getD k.toNat 0=c:=⟨_,rfl⟩
  rw[hcc] at he hl hc
  have hk1:IntKind.i64.wrap (k+1)=k+1:=wrG (by omega) (by omega)
  have hw:=wrap_and (hms.at c.toNat) (hts.at k.toNat)
  have e1:(k+1).toNat=k.toNat+1:=by omega
  refine gets_vc (flag [2000033] spNa) (fun k=> [2,6,7,37,38,39]) (fun k=>if k=0 then [⟨7,3,.int .i64⟩] else [⟨4,3,.int .i64⟩]) 400 (.fork (.fork (.hd 0) (.hd 0)) .stop) (V:=vq26 W S m ms C th ns k mm lo) hmG (fun G R=>by kernel_rfl) ?_
  unfold vq26
  try dsimp only
  simp only[Ty.dflt,hk1,hcc,take_len,List.drop_zero,List.take_length,Mi_getD,Mi_len,Nt_Mi,Int.toNat_natCast,Mi_set,Nat.zero_add,Nat.sub_zero,orI_len,take_one,takeSn,Mi_take,takeL,cast_beq,List.length_append,List.length_cons,List.length_nil,List.length_set,hw]
  by_cases h:mm.getD c.toNat 0&&&th.getD k.toNat 0=mm.getD c.toNat 0
  ·rw[if_pos h] at hl
   have hset:mm.set c.toNat (mm.getD c.toNat 0&&&th.getD k.toNat 0)=mm:=by rw[h];exact set_same 0 _ _
   rw[hset] at he
   have hx:=ih (k+1) mm lo (by omega) (by omega) hml hms (by omega) (by rw[e1] at he⊢;exact he) (by rw[e1] at hl⊢;exact hl)
   rw[h]
   simp (disch:=omega) only[oo,oop,ne_eq,Ty.dflt,reduceCtorEq]
   repeat' (first|with_reducible refine And.intro ?_ ?_|intro _)
   all_goals first|rfl|omega|assumption|trivial|exact room3 (by omega)|exact room46 (by omega)|(exfalso;simp_all;done)|(exfalso;omega)|skip
  ·rw[if_neg h] at hl
   have hx:=ih (k+1) (mm.set c.toNat (mm.getD c.toNat 0&&&th.getD k.toNat 0)) (lo++[c]) (by omega) (by omega) (by rw[List.length_set];exact hml) (by
    intro y hy
    rcases List.mem_or_eq_of_mem_set hy with hy|hy
    ·exact hms y hy
    ·rw[hy];exact and_lt (hms.at _)) (by rw[List.length_append,List.length_cons,List.length_nil];omega) (by rw[e1] at he⊢;exact he) (by rw[e1] at hl;rw[List.append_assoc,e1];exact hl)
   rw[List.length_append,List.length_cons,List.length_nil] at hx
   have hne:((((mm.getD c.toNat 0&&&th.getD k.toNat 0:Nat):Int) !=((mm.getD c.toNat 0:Nat):Int)))=true:=by
    rw[bne_iff_ne]
    omega
   rw[hne]
   simp (disch:=omega) only[oo,oop,ne_eq,Ty.dflt,reduceCtorEq]
   repeat' (first|with_reducible refine And.intro ?_ ?_|intro _)
   all_goals first|rfl|omega|assumption|trivial|exact room3 (by omega)|exact room46 (by omega)|(exfalso;simp_all;done)|(exfalso;omega)|skip
theorem d99 (W:List (List Int)) (S:List Slt) (m:List Nat) (ms:List (List Int)) (s:Int) (s0:0≤s) (s1:s<S.length) (s2:ms.length=S.length) (F:LookOk W m (slotAt S s).2.2 (List.getD ms s.toNat [])):Con Tryd.prog 145 [.box 176 [slW W,slS S,.own 1 0 m.length (some m.length),.own 2 0 ms.length none],.data 22 (.int .u64) (Mi m),.nest kW ms none] [.ptr 0 0 0,.v (.int .i64 s)] (.own 3 0 (lostC W m (slotAt S s).2.2 (List.getD ms s.toNat [])).length none) [some (.box 176 [slW W,slS S,.own 1 0 m.length (some m.length),.own 2 0 ms.length none]),some (.data 22 (.int .u64) (Mi (lookC W m (slotAt S s).2.2 (List.getD ms s.toNat [])))),some (.nest kW (List.set ms s.toNat (keepI W m (slotAt S s).2.2 (List.getD ms s.toNat []))) none)] [.data 3 (.int .i64) (lostC W m (slotAt S s).2.2 (List.getD ms s.toNat []))]:=by
 refine con_vc (how:=[none]) (c:=n99) (K:=(KK n99)) (flag [2000033] spNa) (fun k=> [2,6,7,37,38,39]) (fun k=>if k=0 then [⟨7,3,.int .i64⟩] else [⟨4,3,.int .i64⟩]) 400 (.hd 0) (V:=fun G R=>let yy0:=(S.getD s.toNat ((Ty.int .i64).prod (Ty.bool.prod (Ty.int .i64).sl)).dflt);let yy1:=(ms.getD (0+s.toNat) (NK.mk 27 (Ty.int .i64).sl 0 3 (Ty.int .i64)).t.dflt);let yy2:=(↑(List.length yy0.snd.snd):Int);let yy3:=(keepI W (Nt (Mi m)) yy0.snd.snd yy1++List.replicate (List.length yy1-(keepI W (Nt (Mi m)) yy0.snd.snd yy1).length) (0:Int));let yy4:=(Ty.int .i64);let yy5:=(List.replicate yy2.toNat (0:Int));let yy6:=(Ty.int .u64);let yy7:=(Mi (orI W (Nt (Mi m)) yy0.snd.snd (Nt yy5) yy1));(0:Int)≤s∧s< (↑S.length:Int)∧(0:Int)≤yy2∧yy2≤yy2∧yy2≤(9223372036854775807:Int)∧yy2.toNat*8≤281474976710656∧(0:Int)≤s∧s< (↑ms.length:Int)∧0+s.toNat<ms.length∧Con Tryd.prog 154 [Row.data 3 yy4 yy1,Row.box 33 [D.own 2 0 yy2.toNat (some yy2.toNat)],Row.data 22 yy6 (Mi (Nt yy5))] [D.own 0 0 (List.length yy1) none,D.fn 155 [D.rptr [D.rptr [D.sl false false yy4.sl W,D.sl false false (yy4.prod (Ty.bool.prod yy4.sl)) S,D.sl false false yy6 (Mi (Nt (Mi m))),D.top]],D.rptr [D.sl false false yy4 yy0.snd.snd],D.ptr 1 0 0]] (D.own 0 0 (keepI W (Nt (Mi m)) yy0.snd.snd yy1).length none) [some (Row.data 3 yy4 yy3),some (Row.box 33 [D.own 2 0 yy2.toNat (some yy2.toNat)]),some (Row.data 22 yy6 yy7)] []∧7=7∧0=0∧List.length yy1=List.length yy1∧W=W∧S=S∧List.take m.length (List.drop 0 (Mi m))=Mi (Nt (Mi m))∧yy0.snd.snd=yy0.snd.snd∧6=6∧0=0∧0=0∧yy3.length=List.length yy1∧yy7.length=(Mi (Nt yy5)).length∧some (Row.data 3 yy4 yy1)=some (Row.data 3 yy4 yy1)∧some (Row.box 33 [D.own 5 0 yy2.toNat (some yy2.toNat)])=some (Row.box 33 [D.own 5 0 yy2.toNat (some yy2.toNat)])∧some (Row.data 22 yy6 yy5)=some (Row.data 22 yy6 (Mi (Nt yy5)))∧(0:Int)≤s∧s< (↑ms.length:Int)∧0+s.toNat<ms.length∧0+s.toNat=0+s.toNat∧SameK (KK n99 0) (KK n99 0)∧G 0 (stOf 78 [2,6,7,37,38,39] [D.ptr 3 0 0,D.ptr 4 0 0,D.own 5 0 0 none,D.sl false false yy4 yy0.snd.snd,D.v (Value.int .i64 yy2),D.v (Value.int .i64 (0:Int))] [Slot.live (Row.box 176 [D.sl false false yy4.sl W,D.sl false false (yy4.prod (Ty.bool.prod yy4.sl)) S,D.own 1 0 m.length (some m.length),D.own 2 0 ms.length none]),Slot.live (Row.data 22 yy6 (Mi m)),Slot.live (Row.nest (NK.mk 27 yy4.sl 0 3 yy4) (ms.set (0+s.toNat) (List.take (keepI W (Nt (Mi m)) yy0.snd.snd yy1).length yy3)) none),Slot.live (Row.box 173 [D.ptr 0 0 0]),Slot.live (Row.box 33 [D.own 6 0 yy2.toNat (some yy2.toNat)]),Slot.live (Row.data 3 yy4 []),Slot.live (Row.data 22 yy6 yy7)])) hmG Tryd.func145 (by kernel_rfl) (by kernel_rfl) (fun G R=>by kernel_rfl) ?_
 try dsimp only
 try dsimp only
 obtain⟨C,hC⟩:∃C,(S.getD s.toNat (0,false,[])).2.2=C:=⟨_,rfl⟩
 obtain⟨L,hL⟩:∃L,List.getD ms s.toNat []=L:=⟨_,rfl⟩
 unfold slotAt at F⊢
 rw[hC,hL] at F
 simp only[Ty.dflt,hC,hL,take_len,List.drop_zero,List.take_length,Mi_getD,Mi_len,Nt_Mi,Int.toNat_natCast,Mi_set,Nat.zero_add,Nat.sub_zero,orI_len,take_one,takeSn,Mi_take,takeL,cast_beq,List.length_append,List.length_cons,List.length_nil,List.length_set]
 have hsz:=F.size
 have hr:List.replicate C.length (0:Int)=Mi (List.replicate C.length 0):=Mi_rep _
 have hkl:=keepI_le W m C L
 have c1:=d123 W S m C C.length L (List.replicate C.length 0) rfl F (by simp) (rep_small _)
 have hx:=e99 W S m ms s C (thereI W m C L) (ms.set s.toNat (keepI W m C L)) (by unfold thereI;rw[orI_len];simp) (orI_small W m C L _ (fun i hi=>(F.mem i hi).2.2.2) (rep_small _)) F.cells (by omega) (lookC W m C L) (lostC W m C L) C.length 0 m [] (by omega) (by omega) rfl F.small (by simp) rfl rfl
 simp only[hr,List.length_replicate]
 simp only[Nt_Mi]
 unfold thereI at hx
 have hlen:(keepI W m C L).length+(L.length-(keepI W m C L).length)=L.length:=by omega
 simp only[hlen]
 simp (disch:=omega) only[oo,oop,ne_eq,Ty.dflt,reduceCtorEq]
 repeat' (first|with_reducible refine And.intro ?_ ?_|intro _)
 all_goals first|rfl|omega|assumption|trivial|exact room3 (by omega)|exact room46 (by omega)|(exfalso;simp_all;done)|(exfalso;omega)|skip
def vq27 (g:Gr) (W:List (List Int)) (M:List Nat) (S:List Slt) (ms:List (List Int)) (n:Nat) (s:Int) (C:List Int) (k:Int) (m:List Nat) (G:Nat→St→Prop) (R:D×List (Option Row)×List Row→Prop):Prop:=let yy0:=(Ty.int .i64);let yy1:=(Row.box 73 [D.v (Value.int .i64 g.h),D.v (Value.int .i64 g.w),D.sl false false Ty.bool g.B,D.sl false false Ty.bool g.R,D.sl false false Ty.bool g.L,D.sl false false yy0.sl W,D.sl false false (Ty.int .u64) (Mi M)]);let yy2:=(Row.box 176 [D.sl false false yy0.sl W,D.sl false false (yy0.prod (Ty.bool.prod yy0.sl)) S,D.own 2 0 n (some n),D.own 3 0 ms.length none]);(decide (k< (↑C.length:Int))=true→(0:Int)≤k∧k< (↑C.length:Int)∧(0:Int)≤C.getD k.toNat yy0.dflt∧C.getD k.toNat yy0.dflt< (↑(Mi M).length:Int)∧(0:Int)≤C.getD k.toNat yy0.dflt∧C.getD k.toNat yy0.dflt< (↑n:Int)∧0+Int.toNat (C.getD k.toNat yy0.dflt)< (Mi m).length∧SameK (KK n97 2) (KK n97 2)∧G 2 (stOf 81 [1,3,25,26,27,61,62,63] [D.ptr 0 0 0,D.ptr 1 0 0,D.sl false false (yy0.prod (Ty.bool.prod yy0.sl)) S,D.v (Value.int .i64 (↑S.length:Int)),D.v (Value.int .i64 s),D.sl false false yy0 C,D.v (Value.int .i64 (↑C.length:Int)),D.v (Value.int .i64 (IntKind.i64.wrap (k+(1:Int))))] [Slot.live yy1,Slot.live yy2,Slot.live (Row.data 22 (Ty.int .u64) ((Mi m).set (0+Int.toNat (C.getD k.toNat yy0.dflt)) ((Mi M).getD (Int.toNat (C.getD k.toNat yy0.dflt)) (Ty.int .u64).dflt))),Slot.live (Row.nest (NK.mk 27 yy0.sl 0 3 yy0) ms none)]))∧(decide (k< (↑C.length:Int))=false→SameK (KK n97 0) (KK n97 0)∧G 0 (stOf 81 [1,3,25,26,27] [D.ptr 0 0 0,D.ptr 1 0 0,D.sl false false (yy0.prod (Ty.bool.prod yy0.sl)) S,D.v (Value.int .i64 (↑S.length:Int)),D.v (Value.int .i64 (IntKind.i64.wrap (s+(1:Int))))] [Slot.live yy1,Slot.live yy2,Slot.live (Row.data 22 (Ty.int .u64) (Mi m)),Slot.live (Row.nest (NK.mk 27 yy0.sl 0 3 yy0) ms none)]))
theorem e97c (g:Gr) (W:List (List Int)) (M:List Nat) (S:List Slt) (ms:List (List Int)) (n:Nat) (s:Int) (F:Fine W S M) (hn:M.length=n) (s0:0≤s) (s1:s<S.length) (C:List Int) (hC:(S.getD s.toNat (0,false,[])).2.2=C) (r1:List Nat) (r2:List (List Int)) (mE:List Nat) (hx:GetsK Tryd.prog Tryd.f143.results.toList [none] (KK n97) 0 (.ptr 0 0 0,[],[.box 176 [slW W,slS S,.own 1 0 n (some n),.own 2 0 r2.length none],.data 22 (.int .u64) (Mi r1),.nest kW r2 none]) 0 (stOf 81 [1,3,25,26,27] [.ptr 0 0 0,.ptr 1 0 0,slS S,.v (.int .i64 S.length),.v (.int .i64 (s+1))] [.live (.box 73 [.v (.int .i64 g.h),.v (.int .i64 g.w),.sl false false .bool g.B,.sl false false .bool g.R,.sl false false .bool g.L,slW W,slU M]),.live (.box 176 [slW W,slS S,.own 2 0 n (some n),.own 3 0 ms.length none]),.live (.data 22 (.int .u64) (Mi mE)),.live (.nest kW ms none)])) (z:Nat):∀(k:Int) (m:List Nat),0≤k→k+z=C.length→m.length=n→seatCells M (C.drop k.toNat) m=mE→GetsK Tryd.prog Tryd.f143.results.toList [none] (KK n97) 0 (.ptr 0 0 0,[],[.box 176 [slW W,slS S,.own 1 0 n (some n),.own 2 0 r2.length none],.data 22 (.int .u64) (Mi r1),.nest kW r2 none]) 2 (stOf 81 [1,3,25,26,27,61,62,63] [.ptr 0 0 0,.ptr 1 0 0,slS S,.v (.int .i64 S.length),.v (.int .i64 s),slI C,.v (.int .i64 C.length),.v (.int .i64 k)] [.live (.box 73 [.v (.int .i64 g.h),.v (.int .i64 g.w),.sl false false .bool g.B,.sl false false .bool g.R,.sl false false .bool g.L,slW W,slU M]),.live (.box 176 [slW W,slS S,.own 2 0 n (some n),.own 3 0 ms.length none]),.live (.data 22 (.int .u64) (Mi m)),.live (.nest kW ms none)]):=by
 have hs1:IntKind.i64.wrap (s+1)=s+1:=by have:=F.slots;exact wrG (by omega) (by omega)
 have hc1:=F.cells _ (getD_in (d:=(0,false,[])) (k:=s.toNat) (by omega))
 rw[hC] at hc1
 have hsl:=F.slots
 induction z with
 |zero=>
  intro k m k0 hk hm he
  rw[List.drop_eq_nil_of_le (by omega)] at he
  have he:m=mE:=he
  subst he
  refine gets_vc (flag [2000056] spNa) (fun k=> [[1,3,25,26,27],[1,3,5,6,25,26,27,32,33,34],[1,3,25,26,27,61,62,63]].getD k []) (fun k=>if k=1 then [⟨4030003,27,WT⟩,⟨6,3,.int .i64⟩] else if k<3 then [⟨4030003,27,WT⟩] else []) 400 (.fork (.hd 2) (.hd 0)) (V:=vq27 g W M S ms n s C k m) hmG (fun G R=>by kernel_rfl) ?_
  unfold vq27
  try dsimp only
  simp only[hs1]
  simp (disch:=omega) only[oo,oop,ne_eq,Ty.dflt,reduceCtorEq]
  repeat' (first|with_reducible refine And.intro ?_ ?_|intro _)
  all_goals first|rfl|omega|assumption|trivial|exact room3 (by omega)|exact room46 (by omega)|(exfalso;simp_all;done)|(exfalso;omega)|skip
 |succ z ih=>
  intro k m k0 hk hm he
  have hd:=drop_at (xs:=C) (i:=k) (0:Int) k0 (by omega)
  rw[hd] at he
  simp only[seatCells] at he
  have hk1:IntKind.i64.wrap (k+1)=k+1:=by have:=hc1.1;exact wrG (by omega) (by omega)
  have hc2:=hc1.2 _ (getD_in (d:=0) (k:=k.toNat) (l:=C) (by omega))
  obtain⟨c,hcc⟩:∃c,C.getD k.toNat 0=c:=⟨_,rfl⟩
  rw[hcc] at he hc2
  have hx2:=ih (k+1) (m.set c.toNat (M.getD c.toNat 0)) (by omega) (by omega) (by rw[List.length_set];exact hm) he
  refine gets_vc (flag [2000056] spNa) (fun k=> [[1,3,25,26,27],[1,3,5,6,25,26,27,32,33,34],[1,3,25,26,27,61,62,63]].getD k []) (fun k=>if k=1 then [⟨4030003,27,WT⟩,⟨6,3,.int .i64⟩] else if k<3 then [⟨4030003,27,WT⟩] else []) 400 (.fork (.hd 2) (.hd 0)) (V:=vq27 g W M S ms n s C k m) hmG (fun G R=>by kernel_rfl) ?_
  unfold vq27
  try dsimp only
  simp only[Ty.dflt,hk1,hcc,take_len,List.drop_zero,List.take_length,Mi_getD,Mi_len,Nt_Mi,Int.toNat_natCast,Mi_set,Nat.zero_add,Nat.sub_zero,orI_len,take_one,takeSn,Mi_take,takeL,cast_beq,List.length_append,List.length_cons,List.length_nil,List.length_set]
  simp (disch:=omega) only[oo,oop,ne_eq,Ty.dflt,reduceCtorEq]
  repeat' (first|with_reducible refine And.intro ?_ ?_|intro _)
  all_goals first|rfl|omega|assumption|trivial|exact room3 (by omega)|exact room46 (by omega)|(exfalso;simp_all;done)|(exfalso;omega)|skip
theorem e97w (g:Gr) (W:List (List Int)) (M:List Nat) (S:List Slt) (m:List Nat) (ms:List (List Int)) (n:Nat) (s:Int) (F:Fine W S M) (s0:0≤s) (s1:s<S.length) (x:Int) (d:Bool) (C:List Int) (f:List Int→Bool) (hf:f=fun w=>w.length==C.length) (hms:ms.length≤1000) (r1:List Nat) (r2:List (List Int)) (hx:GetsK Tryd.prog Tryd.f143.results.toList [none] (KK n97) 0 (.ptr 0 0 0,[],[.box 176 [slW W,slS S,.own 1 0 n (some n),.own 2 0 r2.length none],.data 22 (.int .u64) (Mi r1),.nest kW r2 none]) 2 (stOf 81 [1,3,25,26,27,61,62,63] [.ptr 0 0 0,.ptr 1 0 0,slS S,.v (.int .i64 S.length),.v (.int .i64 s),slI C,.v (.int .i64 C.length),.v (.int .i64 0)] [.live (.box 73 [.v (.int .i64 g.h),.v (.int .i64 g.w),.sl false false .bool g.B,.sl false false .bool g.R,.sl false false .bool g.L,slW W,slU M]),.live (.box 176 [slW W,slS S,.own 2 0 n (some n),.own 3 0 (ms++[idxF f 0 W]).length none]),.live (.data 22 (.int .u64) (Mi m)),.live (.nest kW (ms++[idxF f 0 W]) none)])) (z:Nat):∀(i:Int),0≤i→i+z=W.length→GetsK Tryd.prog Tryd.f143.results.toList [none] (KK n97) 0 (.ptr 0 0 0,[],[.box 176 [slW W,slS S,.own 1 0 n (some n),.own 2 0 r2.length none],.data 22 (.int .u64) (Mi r1),.nest kW r2 none]) 1 (stOf 81 [1,3,5,6,25,26,27,32,33,34] [.ptr 0 0 0,.ptr 1 0 0,.ptr 2 0 0,.own 3 0 (idxF f 0 (W.take i.toNat)).length none,slS S,.v (.int .i64 S.length),.v (.int .i64 s),slW W,.v (.int .i64 W.length),.v (.int .i64 i)] [.live (.box 73 [.v (.int .i64 g.h),.v (.int .i64 g.w),.sl false false .bool g.B,.sl false false .bool g.R,.sl false false .bool g.L,slW W,slU M]),.live (.box 176 [slW W,slS S,.own 4 0 n (some n),.own 5 0 ms.length none]),.live (.box 50 [.v (.int .i64 x),.v (.bool d),slI C]),.live (.data 3 (.int .i64) (idxF f 0 (W.take i.toNat))),.live (.data 22 (.int .u64) (Mi m)),.live (.nest kW ms none)]):=by
 have hfw:=F.words
 induction z with
 |zero=>
  intro i i0 hi
  rw[List.take_of_length_le (by omega)]
  rw[List.length_append,List.length_cons,List.length_nil] at hx
  refine gets_vc (flag [2000056] spNa) (fun k=> [[1,3,25,26,27],[1,3,5,6,25,26,27,32,33,34],[1,3,25,26,27,61,62,63]].getD k []) (fun k=>if k=1 then [⟨4030003,27,WT⟩,⟨6,3,.int .i64⟩] else if k<3 then [⟨4030003,27,WT⟩] else []) 400 (.fork (.fork (.hd 1) (.hd 1)) (.hd 2)) (V:=fun G R=>let yy0:=(Ty.int .i64);let yy1:=(Row.box 73 [D.v (Value.int .i64 g.h),D.v (Value.int .i64 g.w),D.sl false false Ty.bool g.B,D.sl false false Ty.bool g.R,D.sl false false Ty.bool g.L,D.sl false false yy0.sl W,D.sl false false (Ty.int .u64) (Mi M)]);let yy2:=(yy0.prod (Ty.bool.prod yy0.sl));let yy3:=(idxF f (0:Int) W);let yy4:=(Row.box 176 [D.sl false false yy0.sl W,D.sl false false yy2 S,D.own 4 0 n (some n),D.own 5 0 ms.length none]);let yy5:=(Row.box 50 [D.v (Value.int .i64 x),D.v (Value.bool d),D.sl false false yy0 C]);let yy6:=(Value.int .i64 (↑S.length:Int));let yy7:=(Row.data 22 (Ty.int .u64) (Mi m));let yy8:=((↑(List.length (W.getD i.toNat yy0.sl.dflt)):Int)==(↑C.length:Int));(decide (i< (↑W.length:Int))=true→(0:Int)≤i∧i< (↑W.length:Int)∧(yy8=true→roomy Tryd.prog 3 (yy3.length+1)∧SameK (KK n97 1) (KK n97 1)∧G 1 (stOf 81 [1,3,5,6,25,26,27,32,33,34] [D.ptr 0 0 0,D.ptr 1 0 0,D.ptr 2 0 0,D.own 3 0 (yy3.length+1) none,D.sl false false yy2 S,D.v yy6,D.v (Value.int .i64 s),D.sl false false yy0.sl W,D.v (Value.int .i64 (↑W.length:Int)),D.v (Value.int .i64 (IntKind.i64.wrap (i+(1:Int))))] [Slot.live yy1,Slot.live yy4,Slot.live yy5,Slot.live (Row.data 3 yy0 (List.take yy3.length (List.drop 0 yy3)++List.take 1 (List.drop 0 [i]))),Slot.live yy7,Slot.live (Row.nest (NK.mk 27 yy0.sl 0 3 yy0) ms none)]))∧(yy8=false→SameK (KK n97 1) (KK n97 1)∧G 1 (stOf 81 [1,3,5,6,25,26,27,32,33,34] [D.ptr 0 0 0,D.ptr 1 0 0,D.ptr 2 0 0,D.own 3 0 yy3.length none,D.sl false false yy2 S,D.v yy6,D.v (Value.int .i64 s),D.sl false false yy0.sl W,D.v (Value.int .i64 (↑W.length:Int)),D.v (Value.int .i64 (IntKind.i64.wrap (i+(1:Int))))] [Slot.live yy1,Slot.live yy4,Slot.live yy5,Slot.live (Row.data 3 yy0 yy3),Slot.live yy7,Slot.live (Row.nest (NK.mk 27 yy0.sl 0 3 yy0) ms none)])))∧(decide (i< (↑W.length:Int))=false→1=1∧roomy Tryd.prog 27 (ms.length+1)∧SameK (KK n97 2) (KK n97 2)∧G 2 (stOf 81 [1,3,25,26,27,61,62,63] [D.ptr 0 0 0,D.ptr 1 0 0,D.sl false false yy2 S,D.v yy6,D.v (Value.int .i64 s),D.sl false false yy0 C,D.v (Value.int .i64 (↑C.length:Int)),D.v (Value.int .i64 (0:Int))] [Slot.live yy1,Slot.live (Row.box 176 [D.sl false false yy0.sl W,D.sl false false yy2 S,D.own 2 0 n (some n),D.own 3 0 (ms.length+1) none]),Slot.live yy7,Slot.live (Row.nest (NK.mk 27 yy0.sl 0 3 yy0) (List.take ms.length ms++[List.take yy3.length (List.drop 0 yy3)]) none)]))) hmG (fun G R=>by kernel_rfl) ?_
  try dsimp only
  simp only[take_len,List.drop_zero,List.take_length,Mi_getD,Mi_len,Nt_Mi,Int.toNat_natCast,Mi_set,Nat.zero_add,Nat.sub_zero,orI_len,take_one,takeSn,Mi_take,takeL,cast_beq,List.length_append,List.length_cons,List.length_nil,List.length_set]
  simp (disch:=omega) only[oo,oop,ne_eq,Ty.dflt,reduceCtorEq]
  repeat' (first|with_reducible refine And.intro ?_ ?_|intro _)
  all_goals first|rfl|omega|assumption|trivial|exact room3 (by omega)|exact room46 (by omega)|(exfalso;simp_all;done)|(exfalso;omega)|skip
 |succ z ih=>
  intro i i0 hi
  have hi1:IntKind.i64.wrap (i+1)=i+1:=wrG (by omega) (by omega)
  have ht:=take_succ_at ([]:List Int) W i0 (by omega)
  obtain⟨w,hw⟩:∃w,W.getD i.toNat []=w:=⟨_,rfl⟩
  rw[hw] at ht
  have htl:(W.take i.toNat).length=i.toNat:=by rw[List.length_take];omega
  have hil:(idxF f 0 (W.take i.toNat)).length≤i.toNat:=Nat.le_trans (idx_len f _ 0) (Nat.le_of_eq htl)
  have hx2:=ih (i+1) (by omega) (by omega)
  rw[ht,idx_snoc,htl,show(0:Int)+(i.toNat:Int)=i by omega] at hx2
  obtain⟨l,hl⟩:∃l,idxF f 0 (W.take i.toNat)=l:=⟨_,rfl⟩
  rw[hl] at hx2 hil⊢
  have hfw2:(w.length==C.length)=f w:=by rw[hf]
  refine gets_vc (flag [2000056] spNa) (fun k=> [[1,3,25,26,27],[1,3,5,6,25,26,27,32,33,34],[1,3,25,26,27,61,62,63]].getD k []) (fun k=>if k=1 then [⟨4030003,27,WT⟩,⟨6,3,.int .i64⟩] else if k<3 then [⟨4030003,27,WT⟩] else []) 400 (.fork (.fork (.hd 1) (.hd 1)) (.hd 2)) (V:=fun G R=>let yy0:=(Ty.int .i64);let yy1:=(Row.box 73 [D.v (Value.int .i64 g.h),D.v (Value.int .i64 g.w),D.sl false false Ty.bool g.B,D.sl false false Ty.bool g.R,D.sl false false Ty.bool g.L,D.sl false false yy0.sl W,D.sl false false (Ty.int .u64) (Mi M)]);let yy2:=(yy0.prod (Ty.bool.prod yy0.sl));let yy3:=(Row.box 176 [D.sl false false yy0.sl W,D.sl false false yy2 S,D.own 4 0 n (some n),D.own 5 0 ms.length none]);let yy4:=(Row.box 50 [D.v (Value.int .i64 x),D.v (Value.bool d),D.sl false false yy0 C]);let yy5:=(Value.int .i64 (↑S.length:Int));let yy6:=(Row.data 22 (Ty.int .u64) (Mi m));let yy7:=((↑(List.length (W.getD i.toNat yy0.sl.dflt)):Int)==(↑C.length:Int));(decide (i< (↑W.length:Int))=true→(0:Int)≤i∧i< (↑W.length:Int)∧(yy7=true→roomy Tryd.prog 3 (l.length+1)∧SameK (KK n97 1) (KK n97 1)∧G 1 (stOf 81 [1,3,5,6,25,26,27,32,33,34] [D.ptr 0 0 0,D.ptr 1 0 0,D.ptr 2 0 0,D.own 3 0 (l.length+1) none,D.sl false false yy2 S,D.v yy5,D.v (Value.int .i64 s),D.sl false false yy0.sl W,D.v (Value.int .i64 (↑W.length:Int)),D.v (Value.int .i64 (IntKind.i64.wrap (i+(1:Int))))] [Slot.live yy1,Slot.live yy3,Slot.live yy4,Slot.live (Row.data 3 yy0 (List.take l.length (List.drop 0 l)++List.take 1 (List.drop 0 [i]))),Slot.live yy6,Slot.live (Row.nest (NK.mk 27 yy0.sl 0 3 yy0) ms none)]))∧(yy7=false→SameK (KK n97 1) (KK n97 1)∧G 1 (stOf 81 [1,3,5,6,25,26,27,32,33,34] [D.ptr 0 0 0,D.ptr 1 0 0,D.ptr 2 0 0,D.own 3 0 l.length none,D.sl false false yy2 S,D.v yy5,D.v (Value.int .i64 s),D.sl false false yy0.sl W,D.v (Value.int .i64 (↑W.length:Int)),D.v (Value.int .i64 (IntKind.i64.wrap (i+(1:Int))))] [Slot.live yy1,Slot.live yy3,Slot.live yy4,Slot.live (Row.data 3 yy0 l),Slot.live yy6,Slot.live (Row.nest (NK.mk 27 yy0.sl 0 3 yy0) ms none)])))∧(decide (i< (↑W.length:Int))=false→1=1∧roomy Tryd.prog 27 (ms.length+1)∧SameK (KK n97 2) (KK n97 2)∧G 2 (stOf 81 [1,3,25,26,27,61,62,63] [D.ptr 0 0 0,D.ptr 1 0 0,D.sl false false yy2 S,D.v yy5,D.v (Value.int .i64 s),D.sl false false yy0 C,D.v (Value.int .i64 (↑C.length:Int)),D.v (Value.int .i64 (0:Int))] [Slot.live yy1,Slot.live (Row.box 176 [D.sl false false yy0.sl W,D.sl false false yy2 S,D.own 2 0 n (some n),D.own 3 0 (ms.length+1) none]),Slot.live yy6,Slot.live (Row.nest (NK.mk 27 yy0.sl 0 3 yy0) (List.take ms.length ms++[List.take l.length (List.drop 0 l)]) none)]))) hmG (fun G R=>by kernel_rfl) ?_
  try dsimp only
  simp only[Ty.dflt,hi1,hw,take_len,List.drop_zero,List.take_length,Mi_getD,Mi_len,Nt_Mi,Int.toNat_natCast,Mi_set,Nat.zero_add,Nat.sub_zero,orI_len,take_one,takeSn,Mi_take,takeL,cast_beq,List.length_append,List.length_cons,List.length_nil,List.length_set,hfw2]
  rcases Bool.eq_false_or_eq_true (f w) with h|h
  ·rw[h,if_pos rfl,List.length_append,List.length_cons,List.length_nil] at hx2
   rw[h]
   simp (disch:=omega) only[oo,oop,ne_eq,Ty.dflt,reduceCtorEq]
   repeat' (first|with_reducible refine And.intro ?_ ?_|intro _)
   all_goals first|rfl|omega|assumption|trivial|exact room3 (by omega)|exact room46 (by omega)|(exfalso;simp_all;done)|(exfalso;omega)|skip
  ·rw[h,if_neg (by simp),List.append_nil] at hx2
   rw[h]
   simp (disch:=omega) only[oo,oop,ne_eq,Ty.dflt,reduceCtorEq]
   repeat' (first|with_reducible refine And.intro ?_ ?_|intro _)
   all_goals first|rfl|omega|assumption|trivial|exact room3 (by omega)|exact room46 (by omega)|(exfalso;simp_all;done)|(exfalso;omega)|skip
def vq28 (g:Gr) (W:List (List Int)) (M:List Nat) (S:List Slt) (n:Nat) (s:Int) (m:List Nat) (ms:List (List Int)) (G:Nat→St→Prop) (R:D×List (Option Row)×List Row→Prop):Prop:=let yy0:=(Ty.int .i64);let yy1:=(yy0.prod (Ty.bool.prod yy0.sl));(decide (s< (↑S.length:Int))=true→(0:Int)≤s∧s< (↑S.length:Int)∧SameK (KK n97 1) (KK n97 1)∧G 1 (stOf 81 [1,3,5,6,25,26,27,32,33,34] [D.ptr 0 0 0,D.ptr 1 0 0,D.ptr 2 0 0,D.own 3 0 0 none,D.sl false false yy1 S,D.v (Value.int .i64 (↑S.length:Int)),D.v (Value.int .i64 s),D.sl false false yy0.sl W,D.v (Value.int .i64 (↑W.length:Int)),D.v (Value.int .i64 (0:Int))] [Slot.live (Row.box 73 [D.v (Value.int .i64 g.h),D.v (Value.int .i64 g.w),D.sl false false Ty.bool g.B,D.sl false false Ty.bool g.R,D.sl false false Ty.bool g.L,D.sl false false yy0.sl W,D.sl false false (Ty.int .u64) (Mi M)]),Slot.live (Row.box 176 [D.sl false false yy0.sl W,D.sl false false yy1 S,D.own 4 0 n (some n),D.own 5 0 ms.length none]),Slot.live (Row.box 50 [D.v (Value.int .i64 (S.getD s.toNat yy1.dflt).fst),D.v (Value.bool (S.getD s.toNat yy1.dflt).snd.fst),D.sl false false yy0 (S.getD s.toNat yy1.dflt).snd.snd]),Slot.live (Row.data 3 yy0 []),Slot.live (Row.data 22 (Ty.int .u64) (Mi m)),Slot.live (Row.nest (NK.mk 27 yy0.sl 0 3 yy0) ms none)]))∧(decide (s< (↑S.length:Int))=false→R (D.ptr 0 0 0,[],[Row.box 176 [D.sl false false yy0.sl W,D.sl false false yy1 S,D.own 1 0 n (some n),D.own 2 0 ms.length none],Row.data 22 (Ty.int .u64) (Mi m),Row.nest (NK.mk 27 yy0.sl 0 3 yy0) ms none]))
theorem e97 (g:Gr) (W:List (List Int)) (M:List Nat) (S:List Slt) (n:Nat) (F:Fine W S M) (hn:M.length=n) (r1:List Nat) (r2:List (List Int)) (h2:mayF W S=r2) (z:Nat):∀(s:Int) (m:List Nat) (ms:List (List Int)),0≤s→s+z=S.length→m.length=n→seatSlots M (S.drop s.toNat) m=r1→ms=mayF W (S.take s.toNat)→GetsK Tryd.prog Tryd.f143.results.toList [none] (KK n97) 0 (.ptr 0 0 0,[],[.box 176 [slW W,slS S,.own 1 0 n (some n),.own 2 0 r2.length none],.data 22 (.int .u64) (Mi r1),.nest kW r2 none]) 0 (stOf 81 [1,3,25,26,27] [.ptr 0 0 0,.ptr 1 0 0,slS S,.v (.int .i64 S.length),.v (.int .i64 s)] [.live (.box 73 [.v (.int .i64 g.h),.v (.int .i64 g.w),.sl false false .bool g.B,.sl false false .bool g.R,.sl false false .bool g.L,slW W,slU M]),.live (.box 176 [slW W,slS S,.own 2 0 n (some n),.own 3 0 ms.length none]),.live (.data 22 (.int .u64) (Mi m)),.live (.nest kW ms none)]):=by
 have hsl:=F.slots
 induction z with
 |zero=>
  intro s m ms s0 hs hm h1 hms
  rw[List.drop_eq_nil_of_le (by omega)] at h1
  rw[List.take_of_length_le (by omega),h2] at hms
  have h1:m=r1:=h1
  subst h1;subst hms
  refine gets_vc (flag [2000056] spNa) (fun k=> [[1,3,25,26,27],[1,3,5,6,25,26,27,32,33,34],[1,3,25,26,27,61,62,63]].getD k []) (fun k=>if k=1 then [⟨4030003,27,WT⟩,⟨6,3,.int .i64⟩] else if k<3 then [⟨4030003,27,WT⟩] else []) 400 (.fork (.hd 1) .stop) (V:=vq28 g W M S n s m ms) hmG (fun G R=>by kernel_rfl) ?_
  unfold vq28
  try dsimp only
  simp (disch:=omega) only[oo,oop,ne_eq,Ty.dflt,reduceCtorEq]
  repeat' (first|with_reducible refine And.intro ?_ ?_|intro _)
  all_goals first|rfl|omega|assumption|trivial|exact room3 (by omega)|exact room46 (by omega)|(exfalso;simp_all;done)|(exfalso;omega)|skip
 |succ z ih=>
  intro s m ms s0 hs hm h1 hms
  have hd:=drop_at (xs:=S) (i:=s) ((0,false,[]):Slt) s0 (by omega)
  have ht:=take_succ_at ((0,false,[]):Slt) S s0 (by omega)
  obtain⟨C,hC⟩:∃C,(S.getD s.toNat (0,false,[])).2.2=C:=⟨_,rfl⟩
  rw[hd] at h1
  simp only[seatSlots,hC] at h1
  have hml:ms.length≤1000:=by rw[hms,may_len,List.length_take];omega
  have hx:=ih (s+1) (seatCells M C m) (ms++[idxF (fun w=>w.length==C.length) 0 W]) (by omega) (by omega) (by rw[seatCells_len];exact hm) h1 (by rw[ht,may_snoc,hms,hC])
  have hx3:=e97c g W M S (ms++[idxF (fun w=>w.length==C.length) 0 W]) n s F hn s0 (by omega) C hC r1 r2 _ hx C.length 0 m (by omega) (by omega) hm rfl
  have hx1:=e97w g W M S m ms n s F s0 (by omega) (S.getD s.toNat (0,false,[])).1 (S.getD s.toNat (0,false,[])).2.1 C (fun w=>w.length==C.length) rfl hml r1 r2 hx3 W.length 0 (by omega) (by omega)
  simp only[show(0:Int).toNat=0 by rfl,List.take_zero,idxF,List.length_nil] at hx1
  refine gets_vc (flag [2000056] spNa) (fun k=> [[1,3,25,26,27],[1,3,5,6,25,26,27,32,33,34],[1,3,25,26,27,61,62,63]].getD k []) (fun k=>if k=1 then [⟨4030003,27,WT⟩,⟨6,3,.int .i64⟩] else if k<3 then [⟨4030003,27,WT⟩] else []) 400 (.fork (.hd 1) .stop) (V:=vq28 g W M S n s m ms) hmG (fun G R=>by kernel_rfl) ?_
  unfold vq28
  try dsimp only
  simp only[Ty.dflt,hC]
  simp (disch:=omega) only[oo,oop,ne_eq,Ty.dflt,reduceCtorEq]
  repeat' (first|with_reducible refine And.intro ?_ ?_|intro _)
  all_goals first|rfl|omega|assumption|trivial|exact room3 (by omega)|exact room46 (by omega)|(exfalso;simp_all;done)|(exfalso;omega)|skip
theorem d97 (g:Gr) (W:List (List Int)) (M:List Nat) (F:Fine W (slotsF g) M):Con Tryd.prog 143 [] [.agg [.v (.int .i64 g.h),.v (.int .i64 g.w),.sl false false .bool g.B,.sl false false .bool g.R,.sl false false .bool g.L,slW W,slU M]] (.ptr 0 0 0) [] [.box 176 [slW W,slS (slotsF g),.own 1 0 M.length (some M.length),.own 2 0 (mayF W (slotsF g)).length none],.data 22 (.int .u64) (Mi (m0F ⟨g,W,M⟩)),.nest kW (mayF W (slotsF g)) none]:=by
 refine con_vc (how:=[none]) (c:=n97) (K:=(KK n97)) (flag [2000056] spNa) (fun k=> [[1,3,25,26,27],[1,3,5,6,25,26,27,32,33,34],[1,3,25,26,27,61,62,63]].getD k []) (fun k=>if k=1 then [⟨4030003,27,WT⟩,⟨6,3,.int .i64⟩] else if k<3 then [⟨4030003,27,WT⟩] else []) 400 (.hd 0) (V:=fun G R=>let yy0:=(Ty.int .i64);let yy1:=(↑(Mi M).length:Int);Con Tryd.prog 36 [] [D.agg [D.v (Value.int .i64 g.h),D.v (Value.int .i64 g.w),D.sl false false Ty.bool g.B,D.sl false false Ty.bool g.R,D.sl false false Ty.bool g.L]] (D.sl false false (yy0.prod (Ty.bool.prod yy0.sl)) (slotsF g)) [] []∧Value.int .i64 g.h=Value.int .i64 g.h∧Value.int .i64 g.w=Value.int .i64 g.w∧g.B=g.B∧g.R=g.R∧g.L=g.L∧(0:Int)≤yy1∧yy1≤yy1∧yy1≤(9223372036854775807:Int)∧yy1.toNat*8≤281474976710656∧SameK (KK n97 0) (KK n97 0)∧G 0 (stOf 81 [1,3,25,26,27] [D.ptr 0 0 0,D.ptr 1 0 0,D.sl false false (yy0.prod (Ty.bool.prod yy0.sl)) (slotsF g),D.v (Value.int .i64 (↑(slotsF g).length:Int)),D.v (Value.int .i64 (0:Int))] [Slot.live (Row.box 73 [D.v (Value.int .i64 g.h),D.v (Value.int .i64 g.w),D.sl false false Ty.bool g.B,D.sl false false Ty.bool g.R,D.sl false false Ty.bool g.L,D.sl false false yy0.sl W,D.sl false false (Ty.int .u64) (Mi M)]),Slot.live (Row.box 176 [D.sl false false yy0.sl W,D.sl false false (yy0.prod (Ty.bool.prod yy0.sl)) (slotsF g),D.own 2 0 yy1.toNat (some yy1.toNat),D.own 3 0 0 none]),Slot.live (Row.data 22 (Ty.int .u64) (List.replicate yy1.toNat (0:Int))),Slot.live (Row.nest (NK.mk 27 yy0.sl 0 3 yy0) [] none)])) hmG Tryd.func143 (by kernel_rfl) (by kernel_rfl) (fun G R=>by kernel_rfl) ?_
 try dsimp only
 try dsimp only
 have c1:=d65s g
 have hsz:=F.size
 have hr:List.replicate M.length (0:Int)=Mi (List.replicate M.length 0):=Mi_rep _
 have hx:=e97 g W M (slotsF g) M.length F rfl _ _ rfl (slotsF g).length 0 (List.replicate M.length 0) [] (by omega) (by omega) (by simp) rfl rfl
 simp only[take_len,List.drop_zero,List.take_length,Mi_getD,Mi_len,Nt_Mi,Int.toNat_natCast,Mi_set,Nat.zero_add,Nat.sub_zero,orI_len,take_one,takeSn,Mi_take,takeL,cast_beq,List.length_append,List.length_cons,List.length_nil,List.length_set,hr]
 simp (disch:=omega) only[oo,oop,ne_eq,Ty.dflt,reduceCtorEq]
 repeat' (first|with_reducible refine And.intro ?_ ?_|intro _)
 all_goals first|rfl|omega|assumption|trivial|exact room3 (by omega)|exact room46 (by omega)|(exfalso;simp_all;done)|(exfalso;omega)|skip
end Go.Proofs.YtnakmganodkliaaDoorAm
set_option maxRecDepth 100000
namespace Go.Proofs.YtnakmganodkliaaDoorAm
open Go
def vq29 (S:List (Int×Bool×List Int)) (s:Int) (cells:List Int) (k:Int) (A:List (Int×Int)) (E:List (Int×Int)) (G:Nat→St→Prop) (R:D×List (Option Row)×List Row→Prop):Prop:=let yy0:=(Ty.int .i64);(decide (k< (↑cells.length:Int))=true→(0:Int)≤k∧k< (↑cells.length:Int)∧(0:Int)≤(0:Int)∧(0:Int)< (↑2:Int)∧(0:Int)≤cells.getD k.toNat yy0.dflt∧cells.getD k.toNat yy0.dflt< (↑A.length:Int)∧0+Int.toNat (cells.getD k.toNat yy0.dflt)<A.length∧SameK (KK q77 2) (KK q77 2)∧G 2 (stOf 63 [4,5,7,32,33,34,42,43,44] [D.ptr 0 0 0,D.v (Value.int .i64 s),D.v (Value.int .i64 (0:Int)),D.own 1 0 S.length none,D.v (Value.int .i64 (↑S.length:Int)),D.v (Value.int .i64 s),D.sl false false yy0 cells,D.v (Value.int .i64 (↑cells.length:Int)),D.v (Value.int .i64 (IntKind.i64.wrap (k+(1:Int))))] [Slot.live (Row.box 111 [D.own 2 0 A.length none,D.own 3 0 E.length none]),Slot.live (Row.data 50 (yy0.prod (Ty.bool.prod yy0.sl)) S),Slot.live (Row.data 61 (yy0.prod yy0) (A.set (0+Int.toNat (cells.getD k.toNat yy0.dflt)) (s,k))),Slot.live (Row.data 61 (yy0.prod yy0) E)]))∧(decide (k< (↑cells.length:Int))=false→SameK (KK q77 1) (KK q77 1)∧G 1 (stOf 63 [4,32,33,34] [D.ptr 0 0 0,D.own 1 0 S.length none,D.v (Value.int .i64 (↑S.length:Int)),D.v (Value.int .i64 (IntKind.i64.wrap (s+(1:Int))))] [Slot.live (Row.box 111 [D.own 2 0 A.length none,D.own 3 0 E.length none]),Slot.live (Row.data 50 (yy0.prod (Ty.bool.prod yy0.sl)) S),Slot.live (Row.data 61 (yy0.prod yy0) A),Slot.live (Row.data 61 (yy0.prod yy0) E)]))
theorem e77_20 (S:List (Int×Bool×List Int)) (s:Int) (cells:List Int) (r:D×List (Option Row)×List Row) (hs:0≤s∧s≤600) (hl:cells.length≤300) (m:Nat):
  ∀(k:Int) (A E:List (Int×Int)),0≤k→k+m=cells.length→(∀c∈cells,0≤c∧c< (A.length:Int))→
  GetsK Tryd.prog Tryd.f40.results.toList [none,none] (KK q77) 0 r 1 (stOf 63 [4,32,33,34] [.ptr 0 0 0,.own 1 0 S.length none,.v (.int .i64 S.length),.v (.int .i64 (s+1))] [.live (.box 111 [.own 2 0 (layCells s k (cells.drop k.toNat) A).length none,.own 3 0 E.length none]),.live (.data 50 SlT S),.live (.data 61 SeT (layCells s k (cells.drop k.toNat) A)),.live (.data 61 SeT E)])→GetsK Tryd.prog Tryd.f40.results.toList [none,none] (KK q77) 0 r 2 (stOf 63 [4,5,7,32,33,34,42,43,44] [.ptr 0 0 0,.v (.int .i64 s),.v (.int .i64 0),.own 1 0 S.length none,.v (.int .i64 S.length),.v (.int .i64 s),.sl false false (.int .i64) cells,.v (.int .i64 cells.length),.v (.int .i64 k)] [.live (.box 111 [.own 2 0 A.length none,.own 3 0 E.length none]),.live (.data 50 SlT S),.live (.data 61 SeT A),.live (.data 61 SeT E)]):=by
 induction m with
 |zero=>
  intro k A E k0 km hc cont
  rw[List.drop_eq_nil_of_le (by omega)] at cont
  simp only[layCells] at cont
  refine gets_vc spSe (fun k=> [[1,4,15,16],[4,32,33,34],[4,5,7,32,33,34,42,43,44]].getD k []) (fun k=>if k=99 then [⟨2,61,SeT⟩,⟨3,61,SeT⟩] else []) 400 (.fork (.hd 2) (.hd 1)) (V:=vq29 S s cells k A E) hmG (fun G R=>by kernel_rfl) ?_
  unfold vq29
  try dsimp only
  simp (disch:=omega) only[oo,oop,ne_eq,Ty.dflt,reduceCtorEq]
  repeat' (first|with_reducible refine And.intro ?_ ?_|intro _)
  all_goals first|rfl|omega|assumption|trivial|exact room104 (by omega)|(exfalso;simp_all;done)|skip
 |succ m ih=>
  intro k A E k0 km hc cont
  have hd:=drop_at (xs:=cells) (i:=k) (0:Int) k0 (by omega)
  have hm:cells.getD k.toNat 0∈cells:=List.mem_of_mem_drop (i:=k.toNat) (by rw[hd];exact List.mem_cons_self)
  have hcc:=hc _ hm
  rw[hd] at cont
  simp only[layCells] at cont
  have hx:=ih (k+1) (A.set (cells.getD k.toNat 0).toNat (s,k)) E (by omega) (by omega) (by rw[List.length_set];exact hc) cont
  rw[List.length_set] at hx
  refine gets_vc spSe (fun k=> [[1,4,15,16],[4,32,33,34],[4,5,7,32,33,34,42,43,44]].getD k []) (fun k=>if k=99 then [⟨2,61,SeT⟩,⟨3,61,SeT⟩] else []) 400 (.fork (.hd 2) (.hd 1)) (V:=vq29 S s cells k A E) hmG (fun G R=>by kernel_rfl) ?_
  unfold vq29
  try dsimp only
  simp only[Ty.dflt,Nat.zero_add]
  simp (disch:=omega) only[oo,oop,ne_eq,Ty.dflt,reduceCtorEq]
  repeat' (first|with_reducible refine And.intro ?_ ?_|intro _)
  all_goals first|rfl|omega|assumption|trivial|exact room104 (by omega)|(exfalso;simp_all;done)|skip
def vq30 (S:List (Int×Bool×List Int)) (s:Int) (cells:List Int) (k:Int) (A:List (Int×Int)) (E:List (Int×Int)) (G:Nat→St→Prop) (R:D×List (Option Row)×List Row→Prop):Prop:=let yy0:=(Ty.int .i64);(decide (k< (↑cells.length:Int))=true→(0:Int)≤k∧k< (↑cells.length:Int)∧(0:Int)≤(1:Int)∧(1:Int)< (↑2:Int)∧(0:Int)≤cells.getD k.toNat yy0.dflt∧cells.getD k.toNat yy0.dflt< (↑E.length:Int)∧0+Int.toNat (cells.getD k.toNat yy0.dflt)<E.length∧SameK (KK q77 2) (KK q77 2)∧G 2 (stOf 63 [4,5,7,32,33,34,42,43,44] [D.ptr 0 0 0,D.v (Value.int .i64 s),D.v (Value.int .i64 (1:Int)),D.own 1 0 S.length none,D.v (Value.int .i64 (↑S.length:Int)),D.v (Value.int .i64 s),D.sl false false yy0 cells,D.v (Value.int .i64 (↑cells.length:Int)),D.v (Value.int .i64 (IntKind.i64.wrap (k+(1:Int))))] [Slot.live (Row.box 111 [D.own 2 0 A.length none,D.own 3 0 E.length none]),Slot.live (Row.data 50 (yy0.prod (Ty.bool.prod yy0.sl)) S),Slot.live (Row.data 61 (yy0.prod yy0) A),Slot.live (Row.data 61 (yy0.prod yy0) (E.set (0+Int.toNat (cells.getD k.toNat yy0.dflt)) (s,k)))]))∧(decide (k< (↑cells.length:Int))=false→SameK (KK q77 1) (KK q77 1)∧G 1 (stOf 63 [4,32,33,34] [D.ptr 0 0 0,D.own 1 0 S.length none,D.v (Value.int .i64 (↑S.length:Int)),D.v (Value.int .i64 (IntKind.i64.wrap (s+(1:Int))))] [Slot.live (Row.box 111 [D.own 2 0 A.length none,D.own 3 0 E.length none]),Slot.live (Row.data 50 (yy0.prod (Ty.bool.prod yy0.sl)) S),Slot.live (Row.data 61 (yy0.prod yy0) A),Slot.live (Row.data 61 (yy0.prod yy0) E)]))
theorem e77_21 (S:List (Int×Bool×List Int)) (s:Int) (cells:List Int) (r:D×List (Option Row)×List Row) (hs:0≤s∧s≤600) (hl:cells.length≤300) (m:Nat):
  ∀(k:Int) (A E:List (Int×Int)),0≤k→k+m=cells.length→(∀c∈cells,0≤c∧c< (E.length:Int))→
  GetsK Tryd.prog Tryd.f40.results.toList [none,none] (KK q77) 0 r 1 (stOf 63 [4,32,33,34] [.ptr 0 0 0,.own 1 0 S.length none,.v (.int .i64 S.length),.v (.int .i64 (s+1))] [.live (.box 111 [.own 2 0 A.length none,.own 3 0 (layCells s k (cells.drop k.toNat) E).length none]),.live (.data 50 SlT S),.live (.data 61 SeT A),.live (.data 61 SeT (layCells s k (cells.drop k.toNat) E))])→GetsK Tryd.prog Tryd.f40.results.toList [none,none] (KK q77) 0 r 2 (stOf 63 [4,5,7,32,33,34,42,43,44] [.ptr 0 0 0,.v (.int .i64 s),.v (.int .i64 1),.own 1 0 S.length none,.v (.int .i64 S.length),.v (.int .i64 s),.sl false false (.int .i64) cells,.v (.int .i64 cells.length),.v (.int .i64 k)] [.live (.box 111 [.own 2 0 A.length none,.own 3 0 E.length none]),.live (.data 50 SlT S),.live (.data 61 SeT A),.live (.data 61 SeT E)]):=by
 induction m with
 |zero=>
  intro k A E k0 km hc cont
  rw[List.drop_eq_nil_of_le (by omega)] at cont
  simp only[layCells] at cont
  refine gets_vc spSe (fun k=> [[1,4,15,16],[4,32,33,34],[4,5,7,32,33,34,42,43,44]].getD k []) (fun k=>if k=99 then [⟨2,61,SeT⟩,⟨3,61,SeT⟩] else []) 400 (.fork (.hd 2) (.hd 1)) (V:=vq30 S s cells k A E) hmG (fun G R=>by kernel_rfl) ?_
  unfold vq30
  try dsimp only
  simp (disch:=omega) only[oo,oop,ne_eq,Ty.dflt,reduceCtorEq]
  repeat' (first|with_reducible refine And.intro ?_ ?_|intro _)
  all_goals first|rfl|omega|assumption|trivial|exact room104 (by omega)|(exfalso;simp_all;done)|skip
 |succ m ih=>
  intro k A E k0 km hc cont
  have hd:=drop_at (xs:=cells) (i:=k) (0:Int) k0 (by omega)
  have hm:cells.getD k.toNat 0∈cells:=List.mem_of_mem_drop (i:=k.toNat) (by rw[hd];exact List.mem_cons_self)
  have hcc:=hc _ hm
  rw[hd] at cont
  simp only[layCells] at cont
  have hx:=ih (k+1) A (E.set (cells.getD k.toNat 0).toNat (s,k)) (by omega) (by omega) (by rw[List.length_set];exact hc) cont
  rw[List.length_set] at hx
  refine gets_vc spSe (fun k=> [[1,4,15,16],[4,32,33,34],[4,5,7,32,33,34,42,43,44]].getD k []) (fun k=>if k=99 then [⟨2,61,SeT⟩,⟨3,61,SeT⟩] else []) 400 (.fork (.hd 2) (.hd 1)) (V:=vq30 S s cells k A E) hmG (fun G R=>by kernel_rfl) ?_
  unfold vq30
  try dsimp only
  simp only[Ty.dflt,Nat.zero_add]
  simp (disch:=omega) only[oo,oop,ne_eq,Ty.dflt,reduceCtorEq]
  repeat' (first|with_reducible refine And.intro ?_ ?_|intro _)
  all_goals first|rfl|omega|assumption|trivial|exact room104 (by omega)|(exfalso;simp_all;done)|skip
def vq31 (S:List (Int×Bool×List Int)) (s:Int) (A:List (Int×Int)) (E:List (Int×Int)) (G:Nat→St→Prop) (R:D×List (Option Row)×List Row→Prop):Prop:=let yy0:=(Ty.int .i64);let yy1:=(S.getD (0+s.toNat) (yy0.prod (Ty.bool.prod yy0.sl)).dflt);(decide (s< (↑S.length:Int))=true→(0:Int)≤s∧s< (↑S.length:Int)∧0+s.toNat<S.length∧(yy1.snd.fst=true→SameK (KK q77 2) (KK q77 2)∧G 2 (stOf 63 [4,5,7,32,33,34,42,43,44] [D.ptr 0 0 0,D.v (Value.int .i64 s),D.v (Value.int .i64 (1:Int)),D.own 1 0 S.length none,D.v (Value.int .i64 (↑S.length:Int)),D.v (Value.int .i64 s),D.sl false false yy0 yy1.snd.snd,D.v (Value.int .i64 (↑(List.length yy1.snd.snd):Int)),D.v (Value.int .i64 (0:Int))] [Slot.live (Row.box 111 [D.own 2 0 A.length none,D.own 3 0 E.length none]),Slot.live (Row.data 50 (yy0.prod (Ty.bool.prod yy0.sl)) S),Slot.live (Row.data 61 (yy0.prod yy0) A),Slot.live (Row.data 61 (yy0.prod yy0) E)]))∧(yy1.snd.fst=false→SameK (KK q77 2) (KK q77 2)∧G 2 (stOf 63 [4,5,7,32,33,34,42,43,44] [D.ptr 0 0 0,D.v (Value.int .i64 s),D.v (Value.int .i64 (0:Int)),D.own 1 0 S.length none,D.v (Value.int .i64 (↑S.length:Int)),D.v (Value.int .i64 s),D.sl false false yy0 yy1.snd.snd,D.v (Value.int .i64 (↑(List.length yy1.snd.snd):Int)),D.v (Value.int .i64 (0:Int))] [Slot.live (Row.box 111 [D.own 2 0 A.length none,D.own 3 0 E.length none]),Slot.live (Row.data 50 (yy0.prod (Ty.bool.prod yy0.sl)) S),Slot.live (Row.data 61 (yy0.prod yy0) A),Slot.live (Row.data 61 (yy0.prod yy0) E)])))∧(decide (s< (↑S.length:Int))=false→(0:Int)≤(0:Int)∧(0:Int)< (↑2:Int)∧(0:Int)≤(1:Int)∧(1:Int)< (↑2:Int)∧R (D.tup [D.own 0 0 A.length none,D.own 1 0 E.length none],[],[Row.data 61 (yy0.prod yy0) A,Row.data 61 (yy0.prod yy0) E]))
theorem e77_1 (S:List (Int×Bool×List Int)) (N:Nat) (r:D×List (Option Row)×List Row) (hS:S.length≤600) (hc:∀x∈S,x.2.2.length≤257∧∀c∈x.2.2,0≤c∧c< (N:Int)) (m:Nat):∀(s:Int) (A E:List (Int×Int)),0≤s→s+m=S.length→A.length=N→E.length=N→
  r=(.tup [.own 0 0 (laySlots s (S.drop s.toNat) A E).1.length none,.own 1 0 (laySlots s (S.drop s.toNat) A E).2.length none],[],[.data 61 SeT (laySlots s (S.drop s.toNat) A E).1,.data 61 SeT (laySlots s (S.drop s.toNat) A E).2])→GetsK Tryd.prog Tryd.f40.results.toList [none,none] (KK q77) 0 r 1 (stOf 63 [4,32,33,34] [.ptr 0 0 0,.own 1 0 S.length none,.v (.int .i64 S.length),.v (.int .i64 s)] [.live (.box 111 [.own 2 0 A.length none,.own 3 0 E.length none]),.live (.data 50 SlT S),.live (.data 61 SeT A),.live (.data 61 SeT E)]):=by
 induction m with
 |zero=>
  intro s A E s0 sm la le hr
  rw[List.drop_eq_nil_of_le (by omega)] at hr
  simp only[laySlots] at hr
  subst hr
  refine gets_vc spSe (fun k=> [[1,4,15,16],[4,32,33,34],[4,5,7,32,33,34,42,43,44]].getD k []) (fun k=>if k=99 then [⟨2,61,SeT⟩,⟨3,61,SeT⟩] else []) 400 (.fork (.fork (.hd 2) (.hd 2)) .stop) (V:=vq31 S s A E) hmG (fun G R=>by kernel_rfl) ?_
  unfold vq31
  try dsimp only
  simp (disch:=omega) only[oo,oop,ne_eq,Ty.dflt,reduceCtorEq]
  repeat' (first|with_reducible refine And.intro ?_ ?_|intro _)
  all_goals first|rfl|omega|assumption|trivial|exact room104 (by omega)|(exfalso;simp_all;done)|skip
 |succ m ih=>
  intro s A E s0 sm la le hr
  have hd:=drop_at (xs:=S) (i:=s) (Ty.dflt (.prod (.int .i64) (.prod .bool (.sl (.int .i64))))) s0 (by omega)
  have hm:S.getD s.toNat (Ty.dflt (.prod (.int .i64) (.prod .bool (.sl (.int .i64)))))∈S:=List.mem_of_mem_drop (i:=s.toNat) (by rw[hd];exact List.mem_cons_self)
  have hx:=hc _ hm
  rw[hd] at hr
  refine gets_vc spSe (fun k=> [[1,4,15,16],[4,32,33,34],[4,5,7,32,33,34,42,43,44]].getD k []) (fun k=>if k=99 then [⟨2,61,SeT⟩,⟨3,61,SeT⟩] else []) 400 (.fork (.fork (.hd 2) (.hd 2)) .stop) (V:=vq31 S s A E) hmG (fun G R=>by kernel_rfl) ?_
  unfold vq31
  try dsimp only
  simp only[Nat.zero_add]
  generalize S.getD s.toNat (Ty.dflt (.prod (.int .i64) (.prod .bool (.sl (.int .i64)))))=z at*
  obtain⟨num,down,cells⟩:=z
  simp only at hx
  simp only[laySlots] at hr
  cases down
  ·simp only[Bool.false_eq_true,if_false] at hr
   have hy:=ih (s+1) (layCells s 0 cells A) E (by omega) (by omega) (by rw[lay_len];exact la) le hr
   have hz:=e77_20 S s cells r ⟨s0,by omega⟩ (by omega) cells.length 0 A E (by omega) (by omega) (by rw[la];exact hx.2) (by simpa using hy)
   simp (disch:=omega) only[oo,oop,ne_eq,Ty.dflt,reduceCtorEq]
   repeat' (first|with_reducible refine And.intro ?_ ?_|intro _)
   all_goals first|rfl|omega|assumption|trivial|exact room104 (by omega)|(exfalso;simp_all;done)|skip
  ·simp only[if_true] at hr
   have hy:=ih (s+1) A (layCells s 0 cells E) (by omega) (by omega) la (by rw[lay_len];exact le) hr
   have hz:=e77_21 S s cells r ⟨s0,by omega⟩ (by omega) cells.length 0 A E (by omega) (by omega) (by rw[le];exact hx.2) (by simpa using hy)
   simp (disch:=omega) only[oo,oop,ne_eq,Ty.dflt,reduceCtorEq]
   repeat' (first|with_reducible refine And.intro ?_ ?_|intro _)
   all_goals first|rfl|omega|assumption|trivial|exact room104 (by omega)|(exfalso;simp_all;done)|skip
theorem e77_n (g:Gr) (n:Nat) (r:D×List (Option Row)×List Row) (hn:0<n∧n≤256) (fin:GetsK Tryd.prog Tryd.f40.results.toList [none,none] (KK q77) 0 r 0 (stOf 63 [1,4,15,16] [.ptr 0 0 0,.ptr 1 0 0,.v (.int .i64 n),.v (.int .i64 1)] [.live (.box 46 [.v (.int .i64 g.h),.v (.int .i64 g.w),.sl false false .bool g.B,.sl false false .bool g.R,.sl false false .bool g.L]),.live (.box 111 [.own 2 0 (List.replicate (1:Int).toNat ((-1:Int),(0:Int))).length none,.own 3 0 (List.replicate (1:Int).toNat ((-1:Int),(0:Int))).length none]),.live (.data 61 SeT (List.replicate (1:Int).toNat ((-1:Int),(0:Int)))),.live (.data 61 SeT (List.replicate (1:Int).toNat ((-1:Int),(0:Int))))])):GetsK Tryd.prog Tryd.f40.results.toList [none,none] (KK q77) 0 r 0 (stOf 63 [1,4,15,16] [.ptr 0 0 0,.ptr 1 0 0,.v (.int .i64 n),.v (.int .i64 0)] [.live (.box 46 [.v (.int .i64 g.h),.v (.int .i64 g.w),.sl false false .bool g.B,.sl false false .bool g.R,.sl false false .bool g.L]),.live (.box 111 [.v (.slice none 0 0),.v (.slice none 0 0)])]):=by
 refine gets_vc spSe (fun k=> [[1,4,15,16],[4,32,33,34],[4,5,7,32,33,34,42,43,44]].getD k []) (fun k=>if k=99 then [⟨2,61,SeT⟩,⟨3,61,SeT⟩] else []) 400 (.fork (.hd 0) (.hd 1)) (V:=fun G R=>let yy0:=(Ty.int .i64);let yy1:=(Row.data 61 (yy0.prod yy0) (List.take 1 (List.drop 0 [((-1:Int),(0:Int))])));(decide ((0:Int)< (↑n:Int))=true→(0:Int)≤(0:Int)∧(0:Int)< (↑2:Int)∧roomy Tryd.prog 61 1∧(0:Int)≤(0:Int)∧(0:Int)< (↑2:Int)∧(0:Int)≤(1:Int)∧(1:Int)< (↑2:Int)∧roomy Tryd.prog 61 1∧(0:Int)≤(1:Int)∧(1:Int)< (↑2:Int)∧SameK (KK q77 0) (KK q77 0)∧G 0 (stOf 63 [1,4,15,16] [D.ptr 0 0 0,D.ptr 1 0 0,D.v (Value.int .i64 (↑n:Int)),D.v (Value.int .i64 (IntKind.i64.wrap ((0:Int)+(1:Int))))] [Slot.live (Row.box 46 [D.v (Value.int .i64 g.h),D.v (Value.int .i64 g.w),D.sl false false Ty.bool g.B,D.sl false false Ty.bool g.R,D.sl false false Ty.bool g.L]),Slot.live (Row.box 111 [D.own 2 0 1 none,D.own 3 0 1 none]),Slot.live yy1,Slot.live yy1]))∧(decide ((0:Int)< (↑n:Int))=false→Con Tryd.prog 36 [] [D.agg [D.v (Value.int .i64 g.h),D.v (Value.int .i64 g.w),D.sl false false Ty.bool g.B,D.sl false false Ty.bool g.R,D.sl false false Ty.bool g.L]] (D.own 0 0 (slotsF g).length none) [] [Row.data 50 (yy0.prod (Ty.bool.prod yy0.sl)) (slotsF g)]∧Value.int .i64 g.h=Value.int .i64 g.h∧Value.int .i64 g.w=Value.int .i64 g.w∧g.B=g.B∧g.R=g.R∧g.L=g.L∧SameK (KK q77 1) (KK q77 1)∧G 1 (stOf 63 [4,32,33,34] [D.ptr 0 0 0,D.own 1 0 (slotsF g).length none,D.v (Value.int .i64 (↑(slotsF g).length:Int)),D.v (Value.int .i64 (0:Int))] [Slot.live (Row.box 111 [D.v (Value.slice none 0 0),D.v (Value.slice none 0 0)]),Slot.live (Row.data 50 (yy0.prod (Ty.bool.prod yy0.sl)) (slotsF g))]))) hmG (fun G R=>by kernel_rfl) ?_
 try dsimp only
 have fin:GetsK Tryd.prog Tryd.f40.results.toList [none,none] (KK q77) 0 r 0 (stOf 63 [1,4,15,16] [.ptr 0 0 0,.ptr 1 0 0,.v (.int .i64 n),.v (.int .i64 1)] [.live (.box 46 [.v (.int .i64 g.h),.v (.int .i64 g.w),.sl false false .bool g.B,.sl false false .bool g.R,.sl false false .bool g.L]),.live (.box 111 [.own 2 0 [((-1:Int),(0:Int))].length none,.own 3 0 [((-1:Int),(0:Int))].length none]),.live (.data 61 SeT [((-1:Int),(0:Int))]),.live (.data 61 SeT [((-1:Int),(0:Int))])]):=fin
 simp (disch:=omega) only[oo,oop,ne_eq,Ty.dflt,reduceCtorEq]
 repeat' (first|with_reducible refine And.intro ?_ ?_|intro _)
 all_goals first|rfl|omega|assumption|trivial|exact room104 (by omega)|(exfalso;simp_all;done)|skip
theorem e77_0 (g:Gr) (n:Nat) (r:D×List (Option Row)×List Row) (hn:n≤256) (fin:Con Tryd.prog 36 [] [g.d] (.own 0 0 (slotsF g).length none) [] [.data 50 SlT (slotsF g)]∧GetsK Tryd.prog Tryd.f40.results.toList [none,none] (KK q77) 0 r 1 (stOf 63 [4,32,33,34] [.ptr 0 0 0,.own 1 0 (slotsF g).length none,.v (.int .i64 (slotsF g).length),.v (.int .i64 0)] [.live (.box 111 [.own 2 0 (List.replicate n ((-1:Int),(0:Int))).length none,.own 3 0 (List.replicate n ((-1:Int),(0:Int))).length none]),.live (.data 50 SlT (slotsF g)),.live (.data 61 SeT (List.replicate n ((-1:Int),(0:Int)))),.live (.data 61 SeT (List.replicate n ((-1:Int),(0:Int))))])) (m:Nat):∀(i:Int),0<i→i+m=n→GetsK Tryd.prog Tryd.f40.results.toList [none,none] (KK q77) 0 r 0 (stOf 63 [1,4,15,16] [.ptr 0 0 0,.ptr 1 0 0,.v (.int .i64 n),.v (.int .i64 i)] [.live (.box 46 [.v (.int .i64 g.h),.v (.int .i64 g.w),.sl false false .bool g.B,.sl false false .bool g.R,.sl false false .bool g.L]),.live (.box 111 [.own 2 0 (List.replicate i.toNat ((-1:Int),(0:Int))).length none,.own 3 0 (List.replicate i.toNat ((-1:Int),(0:Int))).length none]),.live (.data 61 SeT (List.replicate i.toNat ((-1:Int),(0:Int)))),.live (.data 61 SeT (List.replicate i.toNat ((-1:Int),(0:Int))))]):=by
 induction m with
 |zero=>
  intro i i0 im
  have e:i.toNat=n:=by omega
  generalize hA:List.replicate i.toNat ((-1:Int),(0:Int))=A
  refine gets_vc spSe (fun k=> [[1,4,15,16],[4,32,33,34],[4,5,7,32,33,34,42,43,44]].getD k []) (fun k=>if k=99 then [⟨2,61,SeT⟩,⟨3,61,SeT⟩] else []) 400 (.fork (.hd 0) (.hd 1)) (V:=fun G R=>let yy0:=(Ty.int .i64);let yy1:=(Row.data 61 (yy0.prod yy0) (List.take A.length (List.drop 0 A)++List.take 1 (List.drop 0 [((-1:Int),(0:Int))])));(decide (i< (↑n:Int))=true→(0:Int)≤(0:Int)∧(0:Int)< (↑2:Int)∧roomy Tryd.prog 61 (A.length+1)∧(0:Int)≤(0:Int)∧(0:Int)< (↑2:Int)∧(0:Int)≤(1:Int)∧(1:Int)< (↑2:Int)∧roomy Tryd.prog 61 (A.length+1)∧(0:Int)≤(1:Int)∧(1:Int)< (↑2:Int)∧SameK (KK q77 0) (KK q77 0)∧G 0 (stOf 63 [1,4,15,16] [D.ptr 0 0 0,D.ptr 1 0 0,D.v (Value.int .i64 (↑n:Int)),D.v (Value.int .i64 (IntKind.i64.wrap (i+(1:Int))))] [Slot.live (Row.box 46 [D.v (Value.int .i64 g.h),D.v (Value.int .i64 g.w),D.sl false false Ty.bool g.B,D.sl false false Ty.bool g.R,D.sl false false Ty.bool g.L]),Slot.live (Row.box 111 [D.own 2 0 (A.length+1) none,D.own 3 0 (A.length+1) none]),Slot.live yy1,Slot.live yy1]))∧(decide (i< (↑n:Int))=false→Con Tryd.prog 36 [] [D.agg [D.v (Value.int .i64 g.h),D.v (Value.int .i64 g.w),D.sl false false Ty.bool g.B,D.sl false false Ty.bool g.R,D.sl false false Ty.bool g.L]] (D.own 0 0 (slotsF g).length none) [] [Row.data 50 (yy0.prod (Ty.bool.prod yy0.sl)) (slotsF g)]∧Value.int .i64 g.h=Value.int .i64 g.h∧Value.int .i64 g.w=Value.int .i64 g.w∧g.B=g.B∧g.R=g.R∧g.L=g.L∧SameK (KK q77 1) (KK q77 1)∧G 1 (stOf 63 [4,32,33,34] [D.ptr 0 0 0,D.own 1 0 (slotsF g).length none,D.v (Value.int .i64 (↑(slotsF g).length:Int)),D.v (Value.int .i64 (0:Int))] [Slot.live (Row.box 111 [D.own 2 0 A.length none,D.own 3 0 A.length none]),Slot.live (Row.data 50 (yy0.prod (Ty.bool.prod yy0.sl)) (slotsF g)),Slot.live (Row.data 61 (yy0.prod yy0) A),Slot.live (Row.data 61 (yy0.prod yy0) A)]))) hmG (fun G R=>by kernel_rfl) ?_
  try dsimp only
  subst hA
  rw[e]
  obtain⟨fin1,fin2⟩:=fin
  simp (disch:=omega) only[take_len,oo,oop,ne_eq,Ty.dflt,reduceCtorEq]
  repeat' (first|with_reducible refine And.intro ?_ ?_|intro _)
  all_goals first|rfl|omega|assumption|trivial|exact room104 (by omega)|(exfalso;simp_all;done)|skip
 |succ m ih=>
  intro i i0 im
  generalize hA:List.replicate i.toNat ((-1:Int),(0:Int))=A
  refine gets_vc spSe (fun k=> [[1,4,15,16],[4,32,33,34],[4,5,7,32,33,34,42,43,44]].getD k []) (fun k=>if k=99 then [⟨2,61,SeT⟩,⟨3,61,SeT⟩] else []) 400 (.fork (.hd 0) (.hd 1)) (V:=fun G R=>let yy0:=(Ty.int .i64);let yy1:=(Row.data 61 (yy0.prod yy0) (List.take A.length (List.drop 0 A)++List.take 1 (List.drop 0 [((-1:Int),(0:Int))])));(decide (i< (↑n:Int))=true→(0:Int)≤(0:Int)∧(0:Int)< (↑2:Int)∧roomy Tryd.prog 61 (A.length+1)∧(0:Int)≤(0:Int)∧(0:Int)< (↑2:Int)∧(0:Int)≤(1:Int)∧(1:Int)< (↑2:Int)∧roomy Tryd.prog 61 (A.length+1)∧(0:Int)≤(1:Int)∧(1:Int)< (↑2:Int)∧SameK (KK q77 0) (KK q77 0)∧G 0 (stOf 63 [1,4,15,16] [D.ptr 0 0 0,D.ptr 1 0 0,D.v (Value.int .i64 (↑n:Int)),D.v (Value.int .i64 (IntKind.i64.wrap (i+(1:Int))))] [Slot.live (Row.box 46 [D.v (Value.int .i64 g.h),D.v (Value.int .i64 g.w),D.sl false false Ty.bool g.B,D.sl false false Ty.bool g.R,D.sl false false Ty.bool g.L]),Slot.live (Row.box 111 [D.own 2 0 (A.length+1) none,D.own 3 0 (A.length+1) none]),Slot.live yy1,Slot.live yy1]))∧(decide (i< (↑n:Int))=false→Con Tryd.prog 36 [] [D.agg [D.v (Value.int .i64 g.h),D.v (Value.int .i64 g.w),D.sl false false Ty.bool g.B,D.sl false false Ty.bool g.R,D.sl false false Ty.bool g.L]] (D.own 0 0 (slotsF g).length none) [] [Row.data 50 (yy0.prod (Ty.bool.prod yy0.sl)) (slotsF g)]∧Value.int .i64 g.h=Value.int .i64 g.h∧Value.int .i64 g.w=Value.int .i64 g.w∧g.B=g.B∧g.R=g.R∧g.L=g.L∧SameK (KK q77 1) (KK q77 1)∧G 1 (stOf 63 [4,32,33,34] [D.ptr 0 0 0,D.own 1 0 (slotsF g).length none,D.v (Value.int .i64 (↑(slotsF g).length:Int)),D.v (Value.int .i64 (0:Int))] [Slot.live (Row.box 111 [D.own 2 0 A.length none,D.own 3 0 A.length none]),Slot.live (Row.data 50 (yy0.prod (Ty.bool.prod yy0.sl)) (slotsF g)),Slot.live (Row.data 61 (yy0.prod yy0) A),Slot.live (Row.data 61 (yy0.prod yy0) A)]))) hmG (fun G R=>by kernel_rfl) ?_
  try dsimp only
  subst hA
  have hx:=ih (i+1) (by omega) (by omega)
  simp only[show(i+1).toNat=i.toNat+1 by omega,List.replicate_succ',List.length_append,List.length_cons,List.length_nil,Nat.zero_add] at hx
  have hl:(List.replicate i.toNat ((-1:Int),(0:Int))).length≤256:=by simp;omega
  simp (disch:=omega) only[take_len,oo,oop,ne_eq,Ty.dflt,reduceCtorEq]
  repeat' (first|with_reducible refine And.intro ?_ ?_|intro _)
  all_goals first|rfl|omega|assumption|trivial|exact room104 (by omega)|(exfalso;simp_all;done)|skip
theorem d77 (g:Gr):Con Tryd.prog 40 [] [g.d] ((.tup [.own 0 0 (seatsF g).1.length none,.own 1 0 (seatsF g).2.length none])) [] [.data 61 SeT (seatsF g).1,.data 61 SeT (seatsF g).2]:=by
 refine con_vc (how:=[none,none]) (c:=q77) (K:=(KK q77)) spSe (fun k=> [[1,4,15,16],[4,32,33,34],[4,5,7,32,33,34,42,43,44]].getD k []) (fun k=>if k=99 then [⟨2,61,SeT⟩,⟨3,61,SeT⟩] else []) 400 (.fork .stop (.hd 0)) (V:=fun G R=>Con Tryd.prog 44 [] [D.agg [D.v (Value.int .i64 g.h),D.v (Value.int .i64 g.w),D.sl false false Ty.bool g.B,D.sl false false Ty.bool g.R,D.sl false false Ty.bool g.L]] (D.v (Value.int .i64 (checkF g))) [] []∧Value.int .i64 g.h=Value.int .i64 g.h∧Value.int .i64 g.w=Value.int .i64 g.w∧g.B=g.B∧g.R=g.R∧g.L=g.L∧((checkF g !=(0:Int))=true→R (D.tup [D.own 0 0 0 none,D.own 1 0 0 none],[],[Row.data 61 ((Ty.int .i64).prod (Ty.int .i64)) [],Row.data 61 ((Ty.int .i64).prod (Ty.int .i64)) []]))∧((checkF g !=(0:Int))=false→SameK (KK q77 0) (KK q77 0)∧G 0 (stOf 63 [1,4,15,16] [D.ptr 0 0 0,D.ptr 1 0 0,D.v (Value.int .i64 (↑g.B.length:Int)),D.v (Value.int .i64 (0:Int))] [Slot.live (Row.box 46 [D.v (Value.int .i64 g.h),D.v (Value.int .i64 g.w),D.sl false false Ty.bool g.B,D.sl false false Ty.bool g.R,D.sl false false Ty.bool g.L]),Slot.live (Row.box 111 [D.v (Value.slice none 0 0),D.v (Value.slice none 0 0)])]))) hmG Tryd.func40 (by kernel_rfl) (by kernel_rfl) (fun G R=>by kernel_rfl) ?_
 try dsimp only
 have c:=d43 g
 by_cases hc:checkF g=0
 ·have hw:=hw_in (chk0.1 hc).1 (chk0.1 hc).2.1
  have sz:=size3 (chk0.1 hc).2.2.1
  have e:seatsF g=laySlots 0 (slotsF g) (List.replicate (g.h*g.w).toNat (-1,0)) (List.replicate (g.h*g.w).toNat (-1,0)):=if_pos hc
  have es:slotsF g=slotsFrom g (g.h*g.w).toNat 0 0:=if_pos hc
  have hS:(slotsF g).length≤600:=by
   have:=sl_len g (g.h*g.w).toNat 0 0
   rw[es];omega
  have hop:∀x∈slotsF g,x.2.2.length≤257∧∀c∈x.2.2,0≤c∧c< ((g.h*g.w).toNat:Int):=by
   intro x hx
   rw[es] at hx
   obtain⟨h1,h2⟩:=slots_open _ _ _ x hx
   refine⟨h1,fun c hc=> ?_⟩
   have:=open_in (h2 c hc)
   omega
  have f1:=e77_1 (slotsF g) (g.h*g.w).toNat _ hS hop (slotsF g).length 0 _ _ (by omega) (by omega) (List.length_replicate (n:=(g.h*g.w).toNat) (a:=((-1:Int),(0:Int)))) (List.length_replicate (n:=(g.h*g.w).toNat) (a:=((-1:Int),(0:Int)))) rfl
  simp only[show(0:Int).toNat=0 by rfl,List.drop_zero] at f1
  rw[←e] at f1
  have hn:g.B.length=(g.h*g.w).toNat:=by omega
  have f0:=e77_0 g (g.h*g.w).toNat _ (by omega) ⟨d65 g,f1⟩ ((g.h*g.w).toNat-1) 1 (by omega) (by omega)
  have f2:=e77_n g (g.h*g.w).toNat _ (by omega) f0
  rw[hc] at c
  rw[hc,hn]
  simp (disch:=omega) only[oo,oop,ne_eq,Ty.dflt,reduceCtorEq]
  repeat' (first|with_reducible refine And.intro ?_ ?_|intro _)
  all_goals first|rfl|assumption|trivial|omega|(exfalso;simp_all;done)|skip
 ·have e:seatsF g=([],[]):=if_neg hc
  rw[e]
  simp (disch:=omega) only[oo,oop,ne_eq,Ty.dflt,reduceCtorEq]
  repeat' (first|with_reducible refine And.intro ?_ ?_|intro _)
  all_goals first|rfl|assumption|trivial|omega|(exfalso;simp_all;done)|skip
end Go.Proofs.YtnakmganodkliaaDoorAm
set_option maxRecDepth 100000
namespace Go.Proofs.YtnakmganodkliaaDoorAm
open Go
def vq32 (n:Nat) (m:List Nat) (sd:List Bool) (ws:List (List Int)) (s:Int) (ok:Bool) (G:Nat→St→Prop) (R:D×List (Option Row)×List Row→Prop):Prop:=let yy0:=(Row.box 151 [D.v (Value.slice none 0 0),D.v (Value.slice none 0 0),D.v (Value.bool false)]);let yy1:=(NK.mk 27 (Ty.int .i64).sl 0 3 (Ty.int .i64));let yy2:=(Value.int .i64 (IntKind.i64.wrap (s+(1:Int))));let yy3:=(Row.data 22 (Ty.int .u64) (Mi m));(decide (s< (↑n:Int))=true→(ok=true→(0:Int)≤s∧s< (↑n:Int)∧0+s.toNat<sd.length∧((!sd.getD (0+s.toNat) Ty.bool.dflt)=true→SameK (KK n60 4) (KK n60 4)∧G 4 (stOf 119 [2,6,7,12,13,15] [D.ptr 0 0 0,D.own 1 0 n none,D.own 2 0 n (some n),D.own 3 0 ws.length none,D.v (Value.bool true),D.v yy2] [Slot.live yy0,Slot.live yy3,Slot.live (Row.data 4 Ty.bool sd),Slot.live (Row.nest yy1 ws none)]))∧((!sd.getD (0+s.toNat) Ty.bool.dflt)=false→(0:Int)≤s∧s< (↑n:Int)∧0+s.toNat< (Mi m).length∧SameK (KK n60 4) (KK n60 4)∧G 4 (stOf 119 [2,6,7,12,13,15] [D.ptr 0 0 0,D.own 1 0 n none,D.own 2 0 n (some n),D.own 3 0 ws.length none,D.v (Value.bool ((Mi m).getD (0+s.toNat) (Ty.int .u64).dflt !=(0:Int))),D.v yy2] [Slot.live yy0,Slot.live yy3,Slot.live (Row.data 4 Ty.bool sd),Slot.live (Row.nest yy1 ws none)])))∧(ok=false→SameK (KK n60 4) (KK n60 4)∧G 4 (stOf 119 [2,6,7,12,13,15] [D.ptr 0 0 0,D.own 1 0 n none,D.own 2 0 n (some n),D.own 3 0 ws.length none,D.v (Value.bool false),D.v yy2] [Slot.live yy0,Slot.live yy3,Slot.live (Row.data 4 Ty.bool sd),Slot.live (Row.nest yy1 ws none)])))∧(decide (s< (↑n:Int))=false→R (D.tup [D.agg [D.own 0 0 n none,D.own 1 0 ws.length none,D.v (Value.bool ok)],D.v (Value.int .i64 (0:Int))],[],[Row.data 22 (Ty.int .u64) (Mi m),Row.nest yy1 ws none]))
theorem e60d (g:Gr) (W:List (List Int)) (M:List Nat) (S:List Slt) (n:Nat) (m:List Nat) (sd:List Bool) (ws:List (List Int)) (hm:m.length=n) (hsd:sd.length=n) (hn:n≤300) (z:Nat):∀(s:Int) (ok:Bool),0≤s→s+z=n→∀r,r=(ok&&restB sd m z s)→GetsK Tryd.prog Tryd.f125.results.toList [none,none] (KK n60) 0 (.tup [.agg [.own 0 0 n none,.own 1 0 ws.length none,.v (.bool r)],.v (.int .i64 0)],[],[.data 22 (.int .u64) (Mi m),.nest kW ws none]) 4 (stOf 119 [2,6,7,12,13,15] [.ptr 0 0 0,.own 1 0 n none,.own 2 0 n (some n),.own 3 0 ws.length none,.v (.bool ok),.v (.int .i64 s)] [.live (.box 151 [.v (.slice none 0 0),.v (.slice none 0 0),.v (.bool false)]),.live (.data 22 (.int .u64) (Mi m)),.live (.data 4 .bool sd),.live (.nest kW ws none)]):=by
 induction z with
 |zero=>
  intro s ok s0 hs r hr
  have hr:r=ok:=by rw[hr];simp[restB]
  rw[hr]
  refine gets_vc (flag [2000089] spNa) (fun k=> [[1,2,5,6,7,8],[1,2,5,6,7,8,9],[1,2,5,6,7],[2,6,7,12,13,14],[2,6,7,12,13,15]].getD k []) (fun k=>if k=99 then [⟨2,22,.int .u64⟩,⟨4010002,27,WT⟩] else if k=2 then [⟨1000000006,22,.int .u64⟩] else []) 400 (.fork (.fork (.fork (.hd 4) (.hd 4)) (.hd 4)) .stop) (V:=vq32 n m sd ws s ok) hmG (fun G R=>by kernel_rfl) ?_
  unfold vq32
  try dsimp only
  simp (disch:=omega) only[oo,oop,ne_eq,Ty.dflt,reduceCtorEq]
  repeat' (first|with_reducible refine And.intro ?_ ?_|intro _)
  all_goals first|rfl|omega|assumption|trivial|(exfalso;simp_all;done)|(exfalso;omega)|skip
 |succ z ih=>
  intro s ok s0 hs r hr
  have hs1:IntKind.i64.wrap (s+1)=s+1:=wrG (by omega) (by omega)
  have hx:=fun ok'=>ih (s+1) ok' (by omega) (by omega)
  simp only[restB] at hr
  refine gets_vc (flag [2000089] spNa) (fun k=> [[1,2,5,6,7,8],[1,2,5,6,7,8,9],[1,2,5,6,7],[2,6,7,12,13,14],[2,6,7,12,13,15]].getD k []) (fun k=>if k=99 then [⟨2,22,.int .u64⟩,⟨4010002,27,WT⟩] else if k=2 then [⟨1000000006,22,.int .u64⟩] else []) 400 (.fork (.fork (.fork (.hd 4) (.hd 4)) (.hd 4)) .stop) (V:=vq32 n m sd ws s ok) hmG (fun G R=>by kernel_rfl) ?_
  unfold vq32
  try dsimp only
  simp only[Ty.dflt,hs1,take_len,List.drop_zero,List.take_length,Mi_getD,Mi_len,Nt_Mi,Int.toNat_natCast,Mi_set,Nat.zero_add,Nat.sub_zero,set_same,cast_bne0,List.length_set]
  cases ok with
  |false=>
   have h1:=hx false r (by rw[hr];rfl)
   simp (disch:=omega) only[oo,oop,ne_eq,Ty.dflt,reduceCtorEq]
   repeat' (first|with_reducible refine And.intro ?_ ?_|intro _)
   all_goals first|rfl|omega|assumption|trivial|(exfalso;simp_all;done)|(exfalso;omega)|skip
  |true=>
   cases hd:sd.getD s.toNat false with
   |false=>
    have h1:=hx true r (by rw[hr,hd];rfl)
    simp (disch:=omega) only[oo,oop,ne_eq,Ty.dflt,reduceCtorEq]
    repeat' (first|with_reducible refine And.intro ?_ ?_|intro _)
    all_goals first|rfl|omega|assumption|trivial|(exfalso;simp_all;done)|(exfalso;omega)|skip
   |true=>
    have h1:=hx (m.getD s.toNat 0 !=0) r (by rw[hr,hd];rfl)
    simp (disch:=omega) only[oo,oop,ne_eq,Ty.dflt,reduceCtorEq]
    repeat' (first|with_reducible refine And.intro ?_ ?_|intro _)
    all_goals first|rfl|omega|assumption|trivial|(exfalso;simp_all;done)|(exfalso;omega)|skip
def vq33 (n:Nat) (m:List Nat) (sd:List Bool) (ws:List (List Int)) (s:Int) (ok:Bool) (G:Nat→St→Prop) (R:D×List (Option Row)×List Row→Prop):Prop:=let yy0:=(NK.mk 27 (Ty.int .i64).sl 0 3 (Ty.int .i64));let yy1:=(Row.box 151 [D.v (Value.slice none 0 0),D.v (Value.slice none 0 0),D.v (Value.bool false)]);let yy2:=(Row.data 22 (Ty.int .u64) (Mi m));(decide (s< (↑ws.length:Int))=true→(ok=true→(0:Int)≤s∧s< (↑ws.length:Int)∧0+s.toNat<ws.length∧SameK (KK n60 3) (KK n60 3)∧G 3 (stOf 119 [2,6,7,12,13,14] [D.ptr 0 0 0,D.own 1 0 n none,D.own 2 0 n (some n),D.own 3 0 ws.length none,D.v (Value.bool (decide ((↑(List.length (ws.getD (0+s.toNat) yy0.t.dflt)):Int)>(0:Int)))),D.v (Value.int .i64 (IntKind.i64.wrap (s+(1:Int))))] [Slot.live yy1,Slot.live yy2,Slot.live (Row.data 4 Ty.bool sd),Slot.live (Row.nest yy0 (ws.set (0+s.toNat) (List.take (List.length (ws.getD (0+s.toNat) yy0.t.dflt)) (ws.getD (0+s.toNat) yy0.t.dflt))) none)]))∧(ok=false→SameK (KK n60 3) (KK n60 3)∧G 3 (stOf 119 [2,6,7,12,13,14] [D.ptr 0 0 0,D.own 1 0 n none,D.own 2 0 n (some n),D.own 3 0 ws.length none,D.v (Value.bool false),D.v (Value.int .i64 (IntKind.i64.wrap (s+(1:Int))))] [Slot.live yy1,Slot.live yy2,Slot.live (Row.data 4 Ty.bool sd),Slot.live (Row.nest yy0 ws none)])))∧(decide (s< (↑ws.length:Int))=false→SameK (KK n60 4) (KK n60 4)∧G 4 (stOf 119 [2,6,7,12,13,15] [D.ptr 0 0 0,D.own 1 0 n none,D.own 2 0 n (some n),D.own 3 0 ws.length none,D.v (Value.bool ok),D.v (Value.int .i64 (0:Int))] [Slot.live yy1,Slot.live yy2,Slot.live (Row.data 4 Ty.bool sd),Slot.live (Row.nest yy0 ws none)]))
theorem e60c (g:Gr) (W:List (List Int)) (M:List Nat) (S:List Slt) (n:Nat) (m:List Nat) (sd:List Bool) (ws:List (List Int)) (hm:m.length=n) (hsd:sd.length=n) (hn:n≤300) (hw:ws.length≤1000) (z:Nat):∀(s:Int) (ok:Bool),0≤s→s+z=ws.length→∀r,r=((ok&&(ws.drop s.toNat).all fun w=>decide ((w.length:Int)>0))&&restB sd m n 0)→GetsK Tryd.prog Tryd.f125.results.toList [none,none] (KK n60) 0 (.tup [.agg [.own 0 0 n none,.own 1 0 ws.length none,.v (.bool r)],.v (.int .i64 0)],[],[.data 22 (.int .u64) (Mi m),.nest kW ws none]) 3 (stOf 119 [2,6,7,12,13,14] [.ptr 0 0 0,.own 1 0 n none,.own 2 0 n (some n),.own 3 0 ws.length none,.v (.bool ok),.v (.int .i64 s)] [.live (.box 151 [.v (.slice none 0 0),.v (.slice none 0 0),.v (.bool false)]),.live (.data 22 (.int .u64) (Mi m)),.live (.data 4 .bool sd),.live (.nest kW ws none)]):=by
 induction z with
 |zero=>
  intro s ok s0 hs r hr
  rw[List.drop_eq_nil_of_le (by omega)] at hr
  have hx:=e60d g W M S n m sd ws hm hsd hn n 0 ok (by omega) (by omega) r (by rw[hr];simp)
  refine gets_vc (flag [2000089] spNa) (fun k=> [[1,2,5,6,7,8],[1,2,5,6,7,8,9],[1,2,5,6,7],[2,6,7,12,13,14],[2,6,7,12,13,15]].getD k []) (fun k=>if k=99 then [⟨2,22,.int .u64⟩,⟨4010002,27,WT⟩] else if k=2 then [⟨1000000006,22,.int .u64⟩] else []) 400 (.fork (.fork (.hd 3) (.hd 3)) (.hd 4)) (V:=vq33 n m sd ws s ok) hmG (fun G R=>by kernel_rfl) ?_
  unfold vq33
  try dsimp only
  simp (disch:=omega) only[oo,oop,ne_eq,Ty.dflt,reduceCtorEq]
  repeat' (first|with_reducible refine And.intro ?_ ?_|intro _)
  all_goals first|rfl|omega|assumption|trivial|(exfalso;simp_all;done)|(exfalso;omega)|skip
 |succ z ih=>
  intro s ok s0 hs r hr
  have hs1:IntKind.i64.wrap (s+1)=s+1:=wrG (by omega) (by omega)
  rw[drop_at (xs:=ws) (i:=s) ([]:List Int) s0 (by omega)] at hr
  simp only[List.all_cons] at hr
  have hx:=fun ok'=>ih (s+1) ok' (by omega) (by omega)
  refine gets_vc (flag [2000089] spNa) (fun k=> [[1,2,5,6,7,8],[1,2,5,6,7,8,9],[1,2,5,6,7],[2,6,7,12,13,14],[2,6,7,12,13,15]].getD k []) (fun k=>if k=99 then [⟨2,22,.int .u64⟩,⟨4010002,27,WT⟩] else if k=2 then [⟨1000000006,22,.int .u64⟩] else []) 400 (.fork (.fork (.hd 3) (.hd 3)) (.hd 4)) (V:=vq33 n m sd ws s ok) hmG (fun G R=>by kernel_rfl) ?_
  unfold vq33
  try dsimp only
  simp only[Ty.dflt,hs1,take_len,List.drop_zero,List.take_length,Mi_getD,Mi_len,Nt_Mi,Int.toNat_natCast,Mi_set,Nat.zero_add,Nat.sub_zero,set_same,cast_bne0,List.length_set]
  cases ok with
  |false=>
   have h1:=hx false r (by rw[hr];rfl)
   simp (disch:=omega) only[oo,oop,ne_eq,Ty.dflt,reduceCtorEq]
   repeat' (first|with_reducible refine And.intro ?_ ?_|intro _)
   all_goals first|rfl|omega|assumption|trivial|(exfalso;simp_all;done)|(exfalso;omega)|skip
  |true=>
   have h1:=hx (decide (((ws.getD s.toNat []).length:Int)>0)) r (by rw[hr,Bool.true_and])
   simp (disch:=omega) only[oo,oop,ne_eq,Ty.dflt,reduceCtorEq]
   repeat' (first|with_reducible refine And.intro ?_ ?_|intro _)
   all_goals first|rfl|omega|assumption|trivial|(exfalso;simp_all;done)|(exfalso;omega)|skip
theorem e60b (g:Gr) (W:List (List Int)) (M:List Nat) (S:List Slt) (n:Nat) (sd:List Bool) (hsd:sd.length=n) (hn:n≤300) (N:Nat):∀(m:List Nat),m.sum<N→m.length=n→Fine W S m→∀mE ws r,mE=gfpF W S m→ws=wordsF W S mE→r=((ws.all fun w=>decide ((w.length:Int)>0))&&restB sd mE n 0)→GetsK Tryd.prog Tryd.f125.results.toList [none,none] (KK n60) 0 (.tup [.agg [.own 0 0 n none,.own 1 0 ws.length none,.v (.bool r)],.v (.int .i64 0)],[],[.data 22 (.int .u64) (Mi mE),.nest kW ws none]) 2 (stOf 119 [1,2,5,6,7] [.ptr 0 0 0,.ptr 1 0 0,slS S,.own 2 0 n none,.own 3 0 n (some n)] [.live (.box 73 [.v (.int .i64 g.h),.v (.int .i64 g.w),.sl false false .bool g.B,.sl false false .bool g.R,.sl false false .bool g.L,slW W,slU M]),.live (.box 151 [.v (.slice none 0 0),.v (.slice none 0 0),.v (.bool false)]),.live (.data 22 (.int .u64) (Mi m)),.live (.data 4 .bool sd)]):=by
 induction N with
 |zero=>intro m h;omega
 |succ N ih=>
  intro m hsum hm F mE ws r h1 h2 h3
  have ht:(Mi m).take n=Mi m:=by rw[←hm];exact Mi_take m
  have c1:=d101 g W M S m F
  have ol:=once_len W S m
  rw[hm] at ol
  have ht2:(Mi (onceF W S m)).take n=Mi (onceF W S m):=by rw[←ol];exact Mi_take _
  rw[ol] at c1
  have c2:=d102 (Mi (onceF W S m)) (Mi m) (by rw[Mi_len];omega)
  refine gets_vc (flag [2000089] spNa) (fun k=> [[1,2,5,6,7,8],[1,2,5,6,7,8,9],[1,2,5,6,7],[2,6,7,12,13,14],[2,6,7,12,13,15]].getD k []) (fun k=>if k=99 then [⟨2,22,.int .u64⟩,⟨4010002,27,WT⟩] else if k=2 then [⟨1000000006,22,.int .u64⟩] else []) 400 (.fork (.hd 3) (.hd 2)) (V:=fun G R=>let yy0:=(onceF (Pr.mk g W (Nt (Mi M))).W S (Nt (List.take n (List.drop 0 (Mi m)))));let yy1:=(Pr.mk g W (Nt (Mi M)));let yy2:=(List.drop 0 (Mi m));let yy3:=(Ty.int .i64);let yy4:=(List.take yy0.length (List.drop 0 (Mi yy0))=List.take n yy2);let yy5:=(Ty.int .u64);let yy6:=(wordsF yy1.W S (Nt (List.take n yy2)));let yy7:=(Row.box 151 [D.v (Value.slice none 0 0),D.v (Value.slice none 0 0),D.v (Value.bool false)]);Con Tryd.prog 146 [] [D.agg [D.v (Value.int .i64 yy1.g.h),D.v (Value.int .i64 yy1.g.w),D.sl false false Ty.bool yy1.g.B,D.sl false false Ty.bool yy1.g.R,D.sl false false Ty.bool yy1.g.L,D.sl false false yy3.sl yy1.W,D.sl false false yy5 (Mi yy1.M)],D.sl false false (yy3.prod (Ty.bool.prod yy3.sl)) S,D.sl false false yy5 (Mi (Nt (List.take n yy2)))] (D.tup [D.own 0 0 yy0.length none,D.own 1 0 yy6.length none]) [] [Row.data 22 yy5 (Mi yy0),Row.nest (NK.mk 27 yy3.sl 0 3 yy3) yy6 none]∧Value.int .i64 g.h=Value.int .i64 yy1.g.h∧Value.int .i64 g.w=Value.int .i64 yy1.g.w∧g.B=yy1.g.B∧g.R=yy1.g.R∧g.L=yy1.g.L∧W=yy1.W∧Mi M=Mi yy1.M∧S=S∧List.take n yy2=Mi (Nt (List.take n yy2))∧Con Tryd.prog 95 [] [D.sl false false yy5 (List.take yy0.length (List.drop 0 (Mi yy0))),D.sl false false yy5 (List.take n yy2)] (D.v (Value.bool (decide yy4))) [] []∧List.take yy0.length (List.drop 0 (Mi yy0))=List.take yy0.length (List.drop 0 (Mi yy0))∧List.take n yy2=List.take n yy2∧(decide yy4=true→SameK (KK n60 3) (KK n60 3)∧G 3 (stOf 119 [2,6,7,12,13,14] [D.ptr 0 0 0,D.own 1 0 n none,D.own 2 0 n (some n),D.own 3 0 yy6.length none,D.v (Value.bool true),D.v (Value.int .i64 (0:Int))] [Slot.live yy7,Slot.live (Row.data 22 yy5 (Mi m)),Slot.live (Row.data 4 Ty.bool sd),Slot.live (Row.nest (NK.mk 27 yy3.sl 0 3 yy3) yy6 none)]))∧(decide yy4=false→SameK (KK n60 2) (KK n60 2)∧G 2 (stOf 119 [1,2,5,6,7] [D.ptr 0 0 0,D.ptr 1 0 0,D.sl false false (yy3.prod (Ty.bool.prod yy3.sl)) S,D.own 2 0 yy0.length none,D.own 3 0 n (some n)] [Slot.live (Row.box 73 [D.v (Value.int .i64 g.h),D.v (Value.int .i64 g.w),D.sl false false Ty.bool g.B,D.sl false false Ty.bool g.R,D.sl false false Ty.bool g.L,D.sl false false yy3.sl W,D.sl false false yy5 (Mi M)]),Slot.live yy7,Slot.live (Row.data 22 yy5 (List.take yy0.length (List.drop 0 (Mi yy0)))),Slot.live (Row.data 4 Ty.bool sd)]))) hmG (fun G R=>by kernel_rfl) ?_
  try dsimp only
  simp only[List.drop_zero,Nt_Mi,ht,ol,ht2]
  by_cases h:onceF W S m=m
  ·rw[gfp_same h] at h1
   subst h1
   have hwl:ws.length≤1000:=by rw[h2];simp[wordsF];exact F.slots
   have hx:=e60c g W M S n mE sd ws hm hsd hn hwl ws.length 0 true (by omega) (by omega) r (by rw[h3];rfl)
   rw[←h2] at c1⊢
   have e:decide (Mi (onceF W S mE)=Mi mE)=true:=decide_eq_true (by rw[h])
   rw[e] at c2
   simp only[e]
   simp (disch:=omega) only[oo,oop,ne_eq,Ty.dflt,reduceCtorEq]
   repeat' (first|with_reducible refine And.intro ?_ ?_|intro _)
   all_goals first|rfl|omega|assumption|trivial|(exfalso;simp_all;done)|(exfalso;omega)|skip
  ·have e:decide (Mi (onceF W S m)=Mi m)=false:=decide_eq_false (fun q=>h (Mi_inj q))
   rw[e] at c2
   have hs:=once_sum h
   have F2:Fine W S (onceF W S m):=⟨F.words,F.long,F.slots,fun s hs=>by rw[ol,←hm];exact F.cells s hs,by omega,leq_small (once_leq W S m) F.small⟩
   have hx:=ih (onceF W S m) (by omega) ol F2 mE ws r (by rw[h1,fix_step h]) h2 h3
   simp only[e]
   simp (disch:=omega) only[oo,oop,ne_eq,Ty.dflt,reduceCtorEq]
   repeat' (first|with_reducible refine And.intro ?_ ?_|intro _)
   all_goals first|rfl|omega|assumption|trivial|(exfalso;simp_all;done)|(exfalso;omega)|skip
def vq34 (g:Gr) (W:List (List Int)) (M:List Nat) (S:List Slt) (n:Nat) (s:Int) (k:Int) (m:List Nat) (sd:List Bool) (G:Nat→St→Prop) (R:D×List (Option Row)×List Row→Prop):Prop:=let yy0:=(S.getD s.toNat ((Ty.int .i64).prod (Ty.bool.prod (Ty.int .i64).sl)).dflt);let yy1:=(Ty.int .i64);let yy2:=(Row.box 73 [D.v (Value.int .i64 g.h),D.v (Value.int .i64 g.w),D.sl false false Ty.bool g.B,D.sl false false Ty.bool g.R,D.sl false false Ty.bool g.L,D.sl false false yy1.sl W,D.sl false false (Ty.int .u64) (Mi M)]);let yy3:=(List.getD yy0.snd.snd k.toNat yy1.dflt);let yy4:=(Row.box 151 [D.v (Value.slice none 0 0),D.v (Value.slice none 0 0),D.v (Value.bool false)]);(0:Int)≤s∧s< (↑S.length:Int)∧(decide (k< (↑(List.length yy0.snd.snd):Int))=true→(0:Int)≤s∧s< (↑S.length:Int)∧(0:Int)≤k∧k< (↑(List.length yy0.snd.snd):Int)∧(0:Int)≤List.getD yy0.snd.snd k.toNat yy1.dflt∧List.getD yy0.snd.snd k.toNat yy1.dflt< (↑(Mi M).length:Int)∧(0:Int)≤List.getD yy0.snd.snd k.toNat yy1.dflt∧List.getD yy0.snd.snd k.toNat yy1.dflt< (↑n:Int)∧0+Int.toNat yy3< (Mi m).length∧(0:Int)≤List.getD yy0.snd.snd k.toNat yy1.dflt∧List.getD yy0.snd.snd k.toNat yy1.dflt< (↑n:Int)∧0+Int.toNat yy3<sd.length∧SameK (KK n60 1) (KK n60 1)∧G 1 (stOf 119 [1,2,5,6,7,8,9] [D.ptr 0 0 0,D.ptr 1 0 0,D.sl false false (yy1.prod (Ty.bool.prod yy1.sl)) S,D.own 2 0 n (some n),D.own 3 0 n (some n),D.v (Value.int .i64 s),D.v (Value.int .i64 (IntKind.i64.wrap (k+(1:Int))))] [Slot.live yy2,Slot.live yy4,Slot.live (Row.data 22 (Ty.int .u64) ((Mi m).set (0+Int.toNat yy3) ((Mi M).getD (Int.toNat yy3) (Ty.int .u64).dflt))),Slot.live (Row.data 4 Ty.bool (sd.set (0+Int.toNat yy3) true))]))∧(decide (k< (↑(List.length yy0.snd.snd):Int))=false→SameK (KK n60 0) (KK n60 0)∧G 0 (stOf 119 [1,2,5,6,7,8] [D.ptr 0 0 0,D.ptr 1 0 0,D.sl false false (yy1.prod (Ty.bool.prod yy1.sl)) S,D.own 2 0 n (some n),D.own 3 0 n (some n),D.v (Value.int .i64 (IntKind.i64.wrap (s+(1:Int))))] [Slot.live yy2,Slot.live yy4,Slot.live (Row.data 22 (Ty.int .u64) (Mi m)),Slot.live (Row.data 4 Ty.bool sd)]))
theorem e60i (g:Gr) (W:List (List Int)) (M:List Nat) (S:List Slt) (n:Nat) (s:Int) (F:Fine W S M) (hn:M.length=n) (s0:0≤s) (s1:s<S.length) (C:List Int) (hC:(S.getD s.toNat (0,false,[])).2.2=C) (mE:List Nat) (sE:List Bool) (rM:List Nat) (rW:List (List Int)) (rO:Bool) (hx:GetsK Tryd.prog Tryd.f125.results.toList [none,none] (KK n60) 0 (.tup [.agg [.own 0 0 n none,.own 1 0 rW.length none,.v (.bool rO)],.v (.int .i64 0)],[],[.data 22 (.int .u64) (Mi rM),.nest kW rW none]) 0 (stOf 119 [1,2,5,6,7,8] [.ptr 0 0 0,.ptr 1 0 0,slS S,.own 2 0 n (some n),.own 3 0 n (some n),.v (.int .i64 (s+1))] [.live (.box 73 [.v (.int .i64 g.h),.v (.int .i64 g.w),.sl false false .bool g.B,.sl false false .bool g.R,.sl false false .bool g.L,slW W,slU M]),.live (.box 151 [.v (.slice none 0 0),.v (.slice none 0 0),.v (.bool false)]),.live (.data 22 (.int .u64) (Mi mE)),.live (.data 4 .bool sE)])) (z:Nat):∀(k:Int) (m:List Nat) (sd:List Bool),0≤k→k+z=C.length→m.length=n→sd.length=n→seatCells M (C.drop k.toNat) m=mE→markCells (C.drop k.toNat) sd=sE→GetsK Tryd.prog Tryd.f125.results.toList [none,none] (KK n60) 0 (.tup [.agg [.own 0 0 n none,.own 1 0 rW.length none,.v (.bool rO)],.v (.int .i64 0)],[],[.data 22 (.int .u64) (Mi rM),.nest kW rW none]) 1 (stOf 119 [1,2,5,6,7,8,9] [.ptr 0 0 0,.ptr 1 0 0,slS S,.own 2 0 n (some n),.own 3 0 n (some n),.v (.int .i64 s),.v (.int .i64 k)] [.live (.box 73 [.v (.int .i64 g.h),.v (.int .i64 g.w),.sl false false .bool g.B,.sl false false .bool g.R,.sl false false .bool g.L,slW W,slU M]),.live (.box 151 [.v (.slice none 0 0),.v (.slice none 0 0),.v (.bool false)]),.live (.data 22 (.int .u64) (Mi m)),.live (.data 4 .bool sd)]):=by
 have hs1:IntKind.i64.wrap (s+1)=s+1:=by have:=F.slots;exact wrG (by omega) (by omega)
 have hc1:=F.cells _ (getD_in (d:=(0,false,[])) (k:=s.toNat) (by omega))
 rw[hC] at hc1
 have hsl:=F.slots
 induction z with
 |zero=>
  intro k m sd k0 hk hm hsd he hf
  rw[List.drop_eq_nil_of_le (by omega)] at he hf
  have he:m=mE:=he
  have hf:sd=sE:=hf
  subst he;subst hf
  refine gets_vc (flag [2000089] spNa) (fun k=> [[1,2,5,6,7,8],[1,2,5,6,7,8,9],[1,2,5,6,7],[2,6,7,12,13,14],[2,6,7,12,13,15]].getD k []) (fun k=>if k=99 then [⟨2,22,.int .u64⟩,⟨4010002,27,WT⟩] else if k=2 then [⟨1000000006,22,.int .u64⟩] else []) 400 (.fork (.hd 1) (.hd 0)) (V:=vq34 g W M S n s k m sd) hmG (fun G R=>by kernel_rfl) ?_
  unfold vq34
  try dsimp only
  simp only[Ty.dflt,hs1,hC]
  simp (disch:=omega) only[oo,oop,ne_eq,Ty.dflt,reduceCtorEq]
  repeat' (first|with_reducible refine And.intro ?_ ?_|intro _)
  all_goals first|rfl|omega|assumption|trivial|(exfalso;simp_all;done)|(exfalso;omega)|skip
 |succ z ih=>
  intro k m sd k0 hk hm hsd he hf
  have hd:=drop_at (xs:=C) (i:=k) (0:Int) k0 (by omega)
  rw[hd] at he hf
  simp only[seatCells,markCells] at he hf
  have hk1:IntKind.i64.wrap (k+1)=k+1:=by have:=hc1.1;exact wrG (by omega) (by omega)
  have hc2:=hc1.2 _ (getD_in (d:=0) (k:=k.toNat) (l:=C) (by omega))
  obtain⟨c,hcc⟩:∃c,C.getD k.toNat 0=c:=⟨_,rfl⟩
  rw[hcc] at he hf hc2
  have hx2:=ih (k+1) (m.set c.toNat (M.getD c.toNat 0)) (sd.set c.toNat true) (by omega) (by omega) (by rw[List.length_set];exact hm) (by rw[List.length_set];exact hsd) he hf
  refine gets_vc (flag [2000089] spNa) (fun k=> [[1,2,5,6,7,8],[1,2,5,6,7,8,9],[1,2,5,6,7],[2,6,7,12,13,14],[2,6,7,12,13,15]].getD k []) (fun k=>if k=99 then [⟨2,22,.int .u64⟩,⟨4010002,27,WT⟩] else if k=2 then [⟨1000000006,22,.int .u64⟩] else []) 400 (.fork (.hd 1) (.hd 0)) (V:=vq34 g W M S n s k m sd) hmG (fun G R=>by kernel_rfl) ?_
  unfold vq34
  try dsimp only
  simp only[Ty.dflt,hk1,hC,hcc,take_len,List.drop_zero,List.take_length,Mi_getD,Mi_len,Nt_Mi,Int.toNat_natCast,Mi_set,Nat.zero_add,Nat.sub_zero,set_same,cast_bne0,List.length_set]
  simp (disch:=omega) only[oo,oop,ne_eq,Ty.dflt,reduceCtorEq]
  repeat' (first|with_reducible refine And.intro ?_ ?_|intro _)
  all_goals first|rfl|omega|assumption|trivial|(exfalso;simp_all;done)|(exfalso;omega)|skip
def vq35 (g:Gr) (W:List (List Int)) (M:List Nat) (S:List Slt) (n:Nat) (s:Int) (m:List Nat) (sd:List Bool) (G:Nat→St→Prop) (R:D×List (Option Row)×List Row→Prop):Prop:=let yy0:=(Row.box 73 [D.v (Value.int .i64 g.h),D.v (Value.int .i64 g.w),D.sl false false Ty.bool g.B,D.sl false false Ty.bool g.R,D.sl false false Ty.bool g.L,D.sl false false (Ty.int .i64).sl W,D.sl false false (Ty.int .u64) (Mi M)]);let yy1:=(Row.box 151 [D.v (Value.slice none 0 0),D.v (Value.slice none 0 0),D.v (Value.bool false)]);(decide (s< (↑S.length:Int))=true→SameK (KK n60 1) (KK n60 1)∧G 1 (stOf 119 [1,2,5,6,7,8,9] [D.ptr 0 0 0,D.ptr 1 0 0,D.sl false false ((Ty.int .i64).prod (Ty.bool.prod (Ty.int .i64).sl)) S,D.own 2 0 n (some n),D.own 3 0 n (some n),D.v (Value.int .i64 s),D.v (Value.int .i64 (0:Int))] [Slot.live yy0,Slot.live yy1,Slot.live (Row.data 22 (Ty.int .u64) (Mi m)),Slot.live (Row.data 4 Ty.bool sd)]))∧(decide (s< (↑S.length:Int))=false→SameK (KK n60 2) (KK n60 2)∧G 2 (stOf 119 [1,2,5,6,7] [D.ptr 0 0 0,D.ptr 1 0 0,D.sl false false ((Ty.int .i64).prod (Ty.bool.prod (Ty.int .i64).sl)) S,D.own 2 0 n none,D.own 3 0 n (some n)] [Slot.live yy0,Slot.live yy1,Slot.live (Row.data 22 (Ty.int .u64) (List.take n (List.drop 0 (Mi m)))),Slot.live (Row.data 4 Ty.bool sd)]))
theorem e60a (g:Gr) (W:List (List Int)) (M:List Nat) (S:List Slt) (n:Nat) (F:Fine W S M) (hn:M.length=n) (m0:List Nat) (s0:List Bool) (rM:List Nat) (rW:List (List Int)) (rO:Bool) (h1:rM=gfpF W S m0) (h2:rW=wordsF W S rM) (h3:rO=((rW.all fun w=>decide ((w.length:Int)>0))&&restB s0 rM n 0)) (z:Nat):∀(s:Int) (m:List Nat) (sd:List Bool),0≤s→s+z=S.length→m.length=n→sd.length=n→Smalls m→seatSlots M (S.drop s.toNat) m=m0→markSlots (S.drop s.toNat) sd=s0→GetsK Tryd.prog Tryd.f125.results.toList [none,none] (KK n60) 0 (.tup [.agg [.own 0 0 n none,.own 1 0 rW.length none,.v (.bool rO)],.v (.int .i64 0)],[],[.data 22 (.int .u64) (Mi rM),.nest kW rW none]) 0 (stOf 119 [1,2,5,6,7,8] [.ptr 0 0 0,.ptr 1 0 0,slS S,.own 2 0 n (some n),.own 3 0 n (some n),.v (.int .i64 s)] [.live (.box 73 [.v (.int .i64 g.h),.v (.int .i64 g.w),.sl false false .bool g.B,.sl false false .bool g.R,.sl false false .bool g.L,slW W,slU M]),.live (.box 151 [.v (.slice none 0 0),.v (.slice none 0 0),.v (.bool false)]),.live (.data 22 (.int .u64) (Mi m)),.live (.data 4 .bool sd)]):=by
 have hsl:=F.slots
 have hfs:=F.size
 induction z with
 |zero=>
  intro s m sd s0' hs hm hsd hsm h4 h5
  rw[List.drop_eq_nil_of_le (by omega)] at h4 h5
  have h4:m=m0:=h4
  have h5:sd=s0:=h5
  subst h4;subst h5
  have ht:(Mi m).take n=Mi m:=by rw[←hm];exact Mi_take m
  have F2:Fine W S m:=⟨F.words,F.long,F.slots,fun s hs=>by rw[hm,←hn];exact F.cells s hs,by omega,hsm⟩
  have hx:=e60b g W M S n sd hsd (by omega) (m.sum+1) m (by omega) hm F2 rM rW rO h1 h2 h3
  refine gets_vc (flag [2000089] spNa) (fun k=> [[1,2,5,6,7,8],[1,2,5,6,7,8,9],[1,2,5,6,7],[2,6,7,12,13,14],[2,6,7,12,13,15]].getD k []) (fun k=>if k=99 then [⟨2,22,.int .u64⟩,⟨4010002,27,WT⟩] else if k=2 then [⟨1000000006,22,.int .u64⟩] else []) 400 (.fork (.hd 1) (.hd 2)) (V:=vq35 g W M S n s m sd) hmG (fun G R=>by kernel_rfl) ?_
  unfold vq35
  try dsimp only
  simp only[List.drop_zero,ht]
  simp (disch:=omega) only[oo,oop,ne_eq,Ty.dflt,reduceCtorEq]
  repeat' (first|with_reducible refine And.intro ?_ ?_|intro _)
  all_goals first|rfl|omega|assumption|trivial|(exfalso;simp_all;done)|(exfalso;omega)|skip
 |succ z ih=>
  intro s m sd s0' hs hm hsd hsm h4 h5
  have hd:=drop_at (xs:=S) (i:=s) ((0,false,[]):Slt) s0' (by omega)
  obtain⟨C,hC⟩:∃C,(S.getD s.toNat (0,false,[])).2.2=C:=⟨_,rfl⟩
  rw[hd] at h4 h5
  simp only[seatSlots,markSlots,hC] at h4 h5
  have hx:=ih (s+1) (seatCells M C m) (markCells C sd) (by omega) (by omega) (by rw[seatCells_len];exact hm) (by rw[markCells_len];exact hsd) (seatCells_small F.small C hsm) h4 h5
  have hx1:=e60i g W M S n s F hn s0' (by omega) C hC _ _ rM rW rO hx C.length 0 m sd (by omega) (by omega) hm hsd rfl rfl
  refine gets_vc (flag [2000089] spNa) (fun k=> [[1,2,5,6,7,8],[1,2,5,6,7,8,9],[1,2,5,6,7],[2,6,7,12,13,14],[2,6,7,12,13,15]].getD k []) (fun k=>if k=99 then [⟨2,22,.int .u64⟩,⟨4010002,27,WT⟩] else if k=2 then [⟨1000000006,22,.int .u64⟩] else []) 400 (.fork (.hd 1) (.hd 2)) (V:=vq35 g W M S n s m sd) hmG (fun G R=>by kernel_rfl) ?_
  unfold vq35
  try dsimp only
  simp (disch:=omega) only[oo,oop,ne_eq,Ty.dflt,reduceCtorEq]
  repeat' (first|with_reducible refine And.intro ?_ ?_|intro _)
  all_goals first|rfl|omega|assumption|trivial|(exfalso;simp_all;done)|(exfalso;omega)|skip
theorem narM_len (p:Pr) (h:checkP p=0):(narM p).length=p.M.length:=by
 unfold narM m0F
 rw[if_pos h,gfp_len,seatSlots_len]
 simp
theorem d60 (g:Gr) (W:List (List Int)) (M:List Nat) (hM:Smalls M):Con Tryd.prog 125 [] [.agg [.v (.int .i64 g.h),.v (.int .i64 g.w),.sl false false .bool g.B,.sl false false .bool g.R,.sl false false .bool g.L,slW W,slU M]] (narVal (narM ⟨g,W,M⟩) (narW ⟨g,W,M⟩) (narO ⟨g,W,M⟩) (checkP ⟨g,W,M⟩)) [] [.data 22 (.int .u64) (Mi (narM ⟨g,W,M⟩)),.nest kW (narW ⟨g,W,M⟩) none]:=by
 refine con_vc (how:=[none,none]) (c:=n60) (K:=(KK n60)) (flag [2000089] spNa) (fun k=> [[1,2,5,6,7,8],[1,2,5,6,7,8,9],[1,2,5,6,7],[2,6,7,12,13,14],[2,6,7,12,13,15]].getD k []) (fun k=>if k=99 then [⟨2,22,.int .u64⟩,⟨4010002,27,WT⟩] else if k=2 then [⟨1000000006,22,.int .u64⟩] else []) 400 (.fork .stop (.hd 0)) (V:=fun G R=>let yy0:=(Pr.mk g W (Nt (Mi M)));let yy1:=(↑(Mi M).length:Int);let yy2:=(Ty.int .i64);Con Tryd.prog 60 [] [D.agg [D.v (Value.int .i64 yy0.g.h),D.v (Value.int .i64 yy0.g.w),D.sl false false Ty.bool yy0.g.B,D.sl false false Ty.bool yy0.g.R,D.sl false false Ty.bool yy0.g.L,D.sl false false yy2.sl yy0.W,D.sl false false (Ty.int .u64) (Mi yy0.M)]] (D.v (Value.int .i64 (checkP yy0))) [] []∧Value.int .i64 g.h=Value.int .i64 yy0.g.h∧Value.int .i64 g.w=Value.int .i64 yy0.g.w∧g.B=yy0.g.B∧g.R=yy0.g.R∧g.L=yy0.g.L∧W=yy0.W∧Mi M=Mi yy0.M∧((checkP yy0 !=(0:Int))=true→R (D.tup [D.agg [D.own 0 0 0 none,D.own 1 0 0 none,D.v (Value.bool false)],D.v (Value.int .i64 (checkP yy0))],[],[Row.data 22 (Ty.int .u64) [],Row.nest (NK.mk 27 yy2.sl 0 3 yy2) [] none]))∧((checkP yy0 !=(0:Int))=false→Con Tryd.prog 38 [] [D.agg [D.v (Value.int .i64 g.h),D.v (Value.int .i64 g.w),D.sl false false Ty.bool g.B,D.sl false false Ty.bool g.R,D.sl false false Ty.bool g.L]] (D.sl false false (yy2.prod (Ty.bool.prod yy2.sl)) (slotsF g)) [] []∧Value.int .i64 g.h=Value.int .i64 g.h∧Value.int .i64 g.w=Value.int .i64 g.w∧g.B=g.B∧g.R=g.R∧g.L=g.L∧(0:Int)≤yy1∧yy1≤yy1∧yy1≤(9223372036854775807:Int)∧yy1.toNat*8≤281474976710656∧(0:Int)≤yy1∧yy1≤yy1∧yy1≤(9223372036854775807:Int)∧yy1.toNat*1≤281474976710656∧SameK (KK n60 0) (KK n60 0)∧G 0 (stOf 119 [1,2,5,6,7,8] [D.ptr 0 0 0,D.ptr 1 0 0,D.sl false false (yy2.prod (Ty.bool.prod yy2.sl)) (slotsF g),D.own 2 0 yy1.toNat (some yy1.toNat),D.own 3 0 yy1.toNat (some yy1.toNat),D.v (Value.int .i64 (0:Int))] [Slot.live (Row.box 73 [D.v (Value.int .i64 g.h),D.v (Value.int .i64 g.w),D.sl false false Ty.bool g.B,D.sl false false Ty.bool g.R,D.sl false false Ty.bool g.L,D.sl false false yy2.sl W,D.sl false false (Ty.int .u64) (Mi M)]),Slot.live (Row.box 151 [D.v (Value.slice none 0 0),D.v (Value.slice none 0 0),D.v (Value.bool false)]),Slot.live (Row.data 22 (Ty.int .u64) (List.replicate yy1.toNat (0:Int))),Slot.live (Row.data 4 Ty.bool (List.replicate yy1.toNat false))]))) hmG Tryd.func125 (by kernel_rfl) (by kernel_rfl) (fun G R=>by kernel_rfl) ?_
 try dsimp only
 try dsimp only
 have c0:=d63 g W M
 unfold narVal
 simp only[Nt_Mi,Mi_len,Int.toNat_natCast]
 by_cases h:checkP ⟨g,W,M⟩=0
 ·have F:=fine_of h hM
  have hsz:=F.size
  have c1:=d100s g
  have hr:List.replicate M.length (0:Int)=Mi (List.replicate M.length 0):=Mi_rep _
  have hl:=narM_len ⟨g,W,M⟩ h
  have e1:narM ⟨g,W,M⟩=gfpF W (slotsF g) (m0F ⟨g,W,M⟩):=if_pos h
  have e2:narW ⟨g,W,M⟩=wordsF W (slotsF g) (narM ⟨g,W,M⟩):=if_pos h
  have hcell:∀s∈slotsF g,∀c∈s.2.2,0≤c∧c<M.length:=fun s hs=>(F.cells s hs).2
  have e3:narO ⟨g,W,M⟩=(((narW ⟨g,W,M⟩).all fun w=>decide ((w.length:Int)>0))&&restB (markSlots (slotsF g) (List.replicate M.length false)) (narM ⟨g,W,M⟩) M.length 0):=by
   rw[rest_all hl hcell]
   exact if_pos h
  have hx:=e60a g W M (slotsF g) M.length F rfl _ _ _ _ _ e1 e2 e3 (slotsF g).length 0 (List.replicate M.length 0) (List.replicate M.length false) (by omega) (by omega) (by simp) (by simp) (by
   intro x hx
   rw[(List.mem_replicate.1 hx).2]
   decide) rfl rfl
  rw[h] at c0⊢
  rw[hl]
  simp only[hr,show((0:Int) !=0)=false from rfl]
  simp (disch:=omega) only[oo,oop,ne_eq,Ty.dflt,reduceCtorEq]
  repeat' (first|with_reducible refine And.intro ?_ ?_|intro _)
  all_goals first|rfl|omega|assumption|trivial|exact c1|skip
 ·have e1:narM ⟨g,W,M⟩=[]:=if_neg h
  have e2:narW ⟨g,W,M⟩=[]:=if_neg h
  have e3:narO ⟨g,W,M⟩=false:=if_neg h
  rw[e1,e2,e3]
  have hb:(checkP ⟨g,W,M⟩ !=0)=true:=by rw[bne_iff_ne];exact h
  simp only[hb]
  simp (disch:=omega) only[oo,oop,ne_eq,Ty.dflt,reduceCtorEq]
  repeat' (first|with_reducible refine And.intro ?_ ?_|intro _)
  all_goals first|rfl|omega|assumption|trivial|(exfalso;simp_all;done)|(exfalso;omega)|skip
end Go.Proofs.YtnakmganodkliaaDoorAm
namespace Go.Proofs.YtnakmganodkliaaDoorAm
open Go
theorem once_slot {g:Gr} (hc:checkF g=0) {s:Slt} (hs:s∈slotsF g):OnceS s:=by
 intro j k x y hx hy e
 obtain⟨i,hi,he⟩:=List.getElem_of_mem hs
 have hin:=slots_in hc s hs
 have hx0:=hin x (List.mem_of_getElem? hx)
 have hy0:=hin y (List.mem_of_getElem? hy)
 have hxy:x=y:=by omega
 subst hxy
 have h1:Sits (slotsF g) s.2.1 x i j:=⟨s,by rw[List.getElem?_eq_getElem hi,he],rfl,(List.getElem?_eq_some_iff.1 hx).1,by rw[List.getD_eq_getElem?_getD,hx];rfl⟩
 have h2:Sits (slotsF g) s.2.1 x i k:=⟨s,by rw[List.getElem?_eq_getElem hi,he],rfl,(List.getElem?_eq_some_iff.1 hy).1,by rw[List.getD_eq_getElem?_getD,hy];rfl⟩
 exact(sits_unique hc h1 h2).2
theorem seat_lt {g:Gr} (d:Bool) {c:Int} {v:Int×Int} (h:IsSeat (slotsF g) d c v):v.1< (slotsF g).length:=by
 by_cases e:∃s k,Sits (slotsF g) d c s k
 ·obtain⟨s,k,e⟩:=e
  rw[h.1 s k e]
  obtain⟨x,hx,_⟩:=e
  have:=(List.getElem?_eq_some_iff.1 hx).1
  show((s:Nat):Int)<_
  omega
 ·rw[h.2 fun s k q=>e ⟨s,k,q⟩]
  show(-1:Int)<_
  omega
theorem board_of {g:Gr} {W:List (List Int)} {M:List Nat} (h:checkP ⟨g,W,M⟩=0) (hM:Smalls M):Board W (slotsF g) M.length (seatsF g).1 (seatsF g).2∧(seatsF g).1.length=M.length∧(seatsF g).2.length=M.length:=by
 obtain⟨h1,h2,h3,h4⟩:=checkP_zero h
 have F:=fine_of h hM
 simp only at h1 h2 h3 h4
 have hl:=(seats_are (g:=g) h1 (c:=0) (by omega)).2.2
 have hlt:∀c:Nat,((seatsF g).1.getD c (-1,0)).1< (slotsF g).length∧((seatsF g).2.getD c (-1,0)).1< (slotsF g).length:=fun c=>by
  have q:=seats_are (g:=g) h1 (c:=(c:Int)) (by omega)
  have q1:=seat_lt false q.1
  have q2:=seat_lt true q.2.1
  unfold sAt at q1 q2
  rw[Int.toNat_natCast] at q1 q2
  exact⟨q1,q2⟩
 refine⟨⟨fun w hw=>(h3 w hw).2.2,fun j hj=>(F.cells _ (getD_in hj)).2,fun j hj=>once_slot h1 (getD_in hj),fun j hj c hc=> ?_,fun c=>(hlt c).1,fun c=>(hlt c).2⟩,by omega,by omega⟩
 have hs:sAtN (slotsF g) j∈slotsF g:=getD_in hj
 have hin:=slots_in h1 _ hs c hc
 have q:=seats_are (g:=g) h1 (c:=c) hin.1
 obtain⟨k,hk,hkc⟩:=List.getElem_of_mem hc
 have hsit:Sits (slotsF g) (sAtN (slotsF g) j).2.1 c j k:=⟨sAtN (slotsF g) j,by
  unfold sAtN
  rw[List.getD_eq_getElem?_getD,List.getElem?_eq_getElem hj]
  rfl,rfl,hk,by rw[List.getD_eq_getElem?_getD,List.getElem?_eq_getElem hk,hkc];rfl⟩
 cases hd:(sAtN (slotsF g) j).2.1 with
 |false=>
  rw[hd] at hsit
  left
  have:=q.1.1 j k hsit
  unfold sAt at this
  rw[this]
 |true=>
  rw[hd] at hsit
  right
  have:=q.2.1.1 j k hsit
  unfold sAt at this
  rw[this]
theorem inv_start {W:List (List Int)} {S:List Slt} {m0:List Nat} {wt:List Bool} {td:List Int} (q:Queue wt td S.length) (hw:∀j,j<S.length→wt.getD j false=true):Inv W S m0 m0 (mayF W S) wt td:=by
 refine⟨rfl,gfp_leq W S m0,Leq.refl m0,may_len W S,fun j hj=> ?_,fun j hj h=>(by rw[hw j hj] at h;cases h),q⟩
 refine⟨fun w=>w.length==(sAtN S j).2.2.length,?_,fun w hw=> ?_,fun w hw=>by simpa using hw⟩
 ·simp[mayF,List.getD_eq_getElem?_getD,hj,sAtN]
 ·have:=((fit_iff _ _ _).1 hw).1
  simpa using this
theorem Inv.look {W:List (List Int)} {S:List Slt} {m0 m:List Nat} {ms:List (List Int)} {wt:List Bool} {s:Int} {td:List Int} {A D:List (Int×Int)} (B:Board W S m0.length A D) (F:Fine W S m0) (I:Inv W S m0 m ms wt (s::td)):0≤s∧s<S.length∧LookOk W m (slotAt S s).2.2 (ms.getD s.toNat []):=by
 have hs:=I.q.mem s List.mem_cons_self
 have hj:s.toNat<S.length:=by omega
 obtain⟨f,hf,hf1,hf2⟩:=I.ok s.toNat hj
 have hc:=F.cells _ (getD_in (d:=(0,false,[])) hj)
 have hfw:=F.words
 refine⟨hs.1,hs.2.1,⟨fun i hi=> ?_,by omega,?_,hc.1,fun c h=>by rw[I.len];exact hc.2 c h,leq_small I.hi F.small⟩⟩
 ·rw[hf] at hi
  obtain⟨h1,h2,h3,h4⟩:=idx_word hi
  exact⟨h1,h2,hf2 _ h4,B.letters _ h3⟩
 ·rw[hf]
  have:=idx_len f W 0
  omega
def nzB (m:List Nat) (c:Int):Bool:=m.getD c.toNat 0 !=0
def restO (S:List Slt) (m:List Nat) (ms:List (List Int)):Nat→Int→Bool
 |0,_=>true
 |z+1,s=>(decide (((ms.getD s.toNat []).length:Int)>0)&&(slotAt S s).2.2.all (nzB m))&&restO S m ms z (s+1)
theorem restO_iff (S:List Slt) (m:List Nat) (ms:List (List Int)):∀(z:Nat) (s:Int),0≤s→(restO S m ms z s=true↔∀j:Nat,s.toNat≤j→j<s.toNat+z→(((ms.getD j []).length:Int)>0∧∀c∈(sAtN S j).2.2,nzB m c=true))
 |0,s,_=>by simp[restO];intros;omega
 |z+1,s,h=>by
  simp only[restO,Bool.and_eq_true,restO_iff S m ms z (s+1) (by omega),decide_eq_true_eq,List.all_eq_true]
  rw[show(s+1).toNat=s.toNat+1 by omega]
  constructor
  ·rintro⟨h1,h2⟩ j hj1 hj2
   by_cases e:j=s.toNat
   ·subst e;exact h1
   ·exact h2 j (by omega) (by omega)
  ·intro h1
   exact⟨h1 s.toNat (by omega) (by omega),fun j hj1 hj2=>h1 j (by omega) (by omega)⟩
theorem restO_ok {S:List Slt} {m:List Nat} {ms:List (List Int)} (hl:ms.length=S.length):restO S m ms S.length 0=okF S m ms:=by
 apply Bool.eq_iff_iff.2
 rw[restO_iff S m ms _ _ (by omega)]
 unfold okF
 rw[Bool.and_eq_true,List.all_eq_true,List.all_eq_true]
 constructor
 ·intro h
  constructor
  ·intro w hw
   obtain⟨j,hj,e⟩:=List.getElem_of_mem hw
   have:=(h j (by simp) (by simp;omega)).1
   rw[List.getD_eq_getElem?_getD,List.getElem?_eq_getElem hj,e] at this
   simpa using this
  ·intro s hs
   obtain⟨j,hj,e⟩:=List.getElem_of_mem hs
   have:=(h j (by simp) (by simpa using hj)).2
   rw[show sAtN S j=s by rw[←e];simp[sAtN,List.getD_eq_getElem?_getD,hj]] at this
   rw[List.all_eq_true]
   exact this
 ·rintro⟨h1,h2⟩ j _ hj
  have hj:j<S.length:=by simpa using hj
  constructor
  ·have:=h1 (ms.getD j []) (getD_in (by omega))
   simpa using this
  ·have:=h2 (sAtN S j) (getD_in hj)
   rw[List.all_eq_true] at this
   exact this
theorem lost_len (th:List Nat):∀(cs:List Int) (k:Nat) (m:List Nat),(lostL th k cs m).length≤cs.length
 | [],_,_=>by simp[lostL]
 |c::cs,k,m=>by
  simp only[lostL]
  split
  ·have:=lost_len th cs (k+1) m;simp only[List.length_cons];omega
  ·have:=lost_len th cs (k+1) (m.set c.toNat (m.getD c.toNat 0&&&th.getD k 0));simp only[List.length_cons];omega
theorem slots_900 {g:Gr} (h1:checkF g=0):(slotsF g).length≤900:=by
 have hw:=hw_in (chk0.1 h1).1 (chk0.1 h1).2.1
 have hl:(slotsF g).length≤2*(g.h*g.w).toNat:=by
  unfold slotsF
  rw[if_pos h1]
  exact sl_len g _ 0 0
 omega
theorem cnt_rep:∀n:Nat,cntT (List.replicate n false)=0
 |0=>rfl
 |n+1=>by rw[List.replicate_succ,cntT,cnt_rep n];rfl
theorem queue_new (n:Nat):Queue (List.replicate n false) [] n:=by
 refine⟨by simp,List.nodup_nil,fun s hs=>by simp at hs,fun j hj=> ?_,by rw[cnt_rep];rfl⟩
 rw[List.getD_eq_getElem?_getD,List.getElem?_replicate] at hj
 split at hj<;>cases hj
end Go.Proofs.YtnakmganodkliaaDoorAm
